/-
  FoldSeals: of any two shards and any length: a shard that is sealed takes no cut, no seal, and isn't added again; another one takes them. No condition: every input.
-/
import Derived.Test.YtabanackdjlcmaaFoldA
import Derived.Test.YtabanackdjlcmaaFrame
namespace Go.Proofs.Ytabanackdjlcmaa
open Go.ChangeShapes Go.WideShapes Go.ChangeAt Go.RowKit Go.Maps
set_option maxRecDepth 100000

theorem rowsB_one {x m : Int} (hx : 0 ≤ x ∧ x < 8) (hm : m ≠ 0) : rowsB [(x, [m])] = true := by
  have h : cutI [m] = [m] := cutI_snoc [] m hm
  refine rowsB_true (fun i hi => ?_)
  have : i = 0 := by simp at hi; omega
  subst this
  unfold rowOkAt
  simp [hx.1, hx.2, h]
theorem cut_dead {F : FS} {x : Int} {s : Sh} {xs : List Int} (hs : F.sh x = some s) (hf : s.fin = true) : cutE F [(x, xs)] = 34 := by
  have h : rowE F (x, xs) = 34 := by unfold rowE; simp only; rw [hs]; simp only; rw [if_pos hf]
  unfold cutE rowsE
  rw [h]; rfl
theorem cut_none {F : FS} {x : Int} {xs : List Int} (hs : F.sh x = none) : cutE F [(x, xs)] = 30 := by
  have h : rowE F (x, xs) = 30 := by unfold rowE; simp only; rw [hs]
  unfold cutE rowsE
  rw [h]; rfl
theorem cut_one {F : FS} {x m : Int} {sg : Nat} (hs : F.sh x = some ⟨x, sg, [], false⟩) (hg : 1 ≤ sg) (hm : 0 < m) (hsum : F.n + m ≤ 18446744073709551615) :
    cutE F [(x, [m])] = 0 ∧ cutF F [(x, [m])] = { F with sh := fun a => if a = x then some ⟨x, sg, [m], false⟩ else F.sh a, l := F.l ++ [⟨F.n, x, 0, 0, m⟩], n := F.n + m } := by
  have h0 : ∀ i : Nat, atI [] i = 0 := fun i => by unfold atI; split <;> simp
  have hle : leB [] [m] = true := le_iff.2 (fun i => by
    rw [h0]
    cases i with
    | zero => show (0 : Int) ≤ m; omega
    | succ i => show 0 ≤ atI [m] ((i + 1 : Nat) : Int); unfold atI; rw [if_pos (by omega)]; simp)
  have hr : rowE F (x, [m]) = 0 := by
    unfold rowE; simp only; rw [hs]; simp only; rw [if_neg (by decide), if_neg (by rw [hle]; simp; omega)]
  have hsp : rowsSp F [(x, [m])] = [⟨0, x, 0, 0, m⟩] := by
    have e : rowsSp F [(x, [m])] = rowSp F (x, [m]) := by simp [rowsSp]
    rw [e]
    unfold rowSp lensOf
    simp only
    rw [hs]
    simp only
    show newSp [] x [m] 1 = _
    unfold newSp
    have e1 : atI [] (0 : Int) = 0 := h0 0
    have e2 : atI [m] (0 : Int) = m := rfl
    simp only [List.range_one, List.flatMap_cons, List.flatMap_nil, List.append_nil, Int.natCast_zero]
    simp [e1, e2, hm]
  have hsm : sumE (F.n :: manyOf [⟨0, x, 0, 0, m⟩]) = 0 := by
    unfold sumE
    rw [if_pos (by simp [sumI, manyOf]; omega)]
  refine ⟨?_, ?_⟩
  · unfold cutE
    rw [hsp, hsm]
    simp [rowsE, hr]
  · unfold cutF
    rw [hsp]
    have h2 := lenS_snoc (F := F) (rs := []) (id := x) (xs := [m]) hs (by simp)
    rw [List.nil_append, lenS_nil] at h2
    rw [h2, (show cutI [m] = [m] from cutI_snoc [] m (by omega))]
    simp [posSp, manyOf, sumI]
/-- The state behind the seal. -/
def sl2 (x n : Int) : FS := { emptyFS with sh := fun a => if a = x then some ⟨x, 1, [n], true⟩ else none, l := [⟨0, x, 0, 0, n⟩], n := n }
theorem sl_2 {x n : Int} (hn : 0 < n) (hn2 : n ≤ 1000) : sealE (addR emptyFS x 1) x [(x, [n])] = 0 ∧ sealR (addR emptyFS x 1) x [(x, [n])] = sl2 x n := by
  have hs : (addR emptyFS x 1).sh x = some ⟨x, 1, [], false⟩ := by show (if x = x then some _ else none) = _; rw [if_pos rfl]
  have hc := cut_one (F := addR emptyFS x 1) hs (Nat.le_refl _) hn (by show (0 : Int) + n ≤ _; omega)
  have hl : liveE (addR emptyFS x 1) x = 0 := by unfold liveE; rw [hs]; rfl
  have he : sealE (addR emptyFS x 1) x [(x, [n])] = 0 := by unfold sealE; rw [if_pos hl]; exact hc.1
  refine ⟨he, ?_⟩
  unfold sealR
  rw [if_pos he]
  unfold sealF
  rw [hc.2]
  unfold sl2 addR putS emptyFS
  simp only
  congr 1
  · funext a
    by_cases h : a = x
    · subst h; simp
    · simp [h]
  · simp
theorem sl2_at (x n : Int) : (sl2 x n).sh x = some ⟨x, 1, [n], true⟩ := by show (if x = x then some _ else none) = _; rw [if_pos rfl]
theorem sl2_ne {x y : Int} (n : Int) (h : y ≠ x) : (sl2 x n).sh y = none := by show (if y = x then some _ else none) = _; rw [if_neg h]
theorem sl_3 (x n : Int) (xs : List Int) : cutE (sl2 x n) [(x, xs)] = 34 ∧ cutR (sl2 x n) [(x, xs)] = sl2 x n := by
  have h := cut_dead (xs := xs) (sl2_at x n) rfl
  exact ⟨h, by unfold cutR; rw [h]; rfl⟩
theorem sl_4 (x n : Int) : sealE (sl2 x n) x [] = 34 ∧ sealR (sl2 x n) x [] = sl2 x n := by
  have h : sealE (sl2 x n) x [] = 34 := by
    have : liveE (sl2 x n) x = 34 := by unfold liveE; rw [sl2_at]; rfl
    unfold sealE; rw [this]; rfl
  exact ⟨h, by unfold sealR; rw [h]; rfl⟩
theorem sl_5 (x n : Int) : addE (sl2 x n) x = 31 ∧ addR (sl2 x n) x 1 = sl2 x n := by
  unfold addE addR; rw [sl2_at]; exact ⟨rfl, rfl⟩
theorem sl_6 {x y : Int} (n : Int) (h : y ≠ x) (xs : List Int) : cutE (sl2 x n) [(y, xs)] = 30 ∧ cutR (sl2 x n) [(y, xs)] = sl2 x n := by
  have h := cut_none (xs := xs) (sl2_ne n h)
  exact ⟨h, by unfold cutR; rw [h]; rfl⟩
theorem sl_7 {x y : Int} (n : Int) (h : y ≠ x) : addE (sl2 x n) y = 0 ∧ addR (sl2 x n) y 1 = putS (sl2 x n) y ⟨y, 1, [], false⟩ := by
  unfold addE addR; rw [sl2_ne n h]; exact ⟨rfl, rfl⟩
theorem sl_8 {x y n : Int} (hn2 : n ≤ 1000) : cutE (putS (sl2 x n) y ⟨y, 1, [], false⟩) [(y, [1])] = 0 ∧ (cutR (putS (sl2 x n) y ⟨y, 1, [], false⟩) [(y, [1])]).n = n + 1 := by
  have hc := cut_one (F := putS (sl2 x n) y ⟨y, 1, [], false⟩) (x := y) (m := 1) (sg := 1) (by show (if y = y then some _ else _) = _; rw [if_pos rfl]) (Nat.le_refl _) (by decide) (by show n + 1 ≤ _; omega)
  refine ⟨hc.1, ?_⟩
  unfold cutR
  rw [if_pos hc.1, hc.2]
  rfl

set_option maxHeartbeats 4000000 in
theorem foldSeals_walk {a b c : Int} {W : World} (wa : (Lit.int .u8 a).wf = true) (wb : (Lit.int .u8 b).wf = true) (wc : (Lit.int .u8 c).wf = true) :
    Calls Try.prog 6 #[.int .u8 a, .int .u8 b, .int .u8 c] W fun e W' => e = .returned (.bool true) ∧ Below W.heap.size W W' := by
  simp [Lit.wf, IntKind.min, IntKind.max, IntKind.signed, IntKind.bits] at wa wb wc
  go_enter Try.func6, Try.ntmps6
  go_wp2_with fail
  refine (fawake_any W).mono ?_
  rintro e w1 ⟨rfl, hb1⟩
  have HB1 := Lib.hid hb1
  clear hb1
  go_wp2_with fail
  refine (fnew_w W w1 HB1.out).mono ?_
  rintro e w2 ⟨b0, rfl, hf2⟩
  have HF2 := Lib.hid hf2
  clear hf2
  go_wp2_with fail
  have hx8 : 0 ≤ a % 8 ∧ a % 8 < 8 := by omega
  have hy8 : 0 ≤ b % 8 ∧ b % 8 < 8 := by omega
  have hn : 0 < c + 1 ∧ c + 1 ≤ 1000 := by omega
  generalize a % 8 = x at *
  generalize b % 8 = y at *
  generalize c + 1 = n at *
  refine (HF2.out.added (shard := x) (sg := 1) hx8 (by decide) (by decide) (by decide)).mono ?_
  rintro e w3 ⟨rfl, hf3⟩
  rw [show addE emptyFS x = 0 from rfl]
  have HF3 := Lib.hid hf3
  clear hf3 HF2
  have HA3 := Lib.hid (((Below.refl w3.heap.size w3).alloc (Nat.le_refl _) (.cells #[.int .u64 n] 39)).alloc (by simp) (.cells #[.int .i64 x, .slice (some ⟨w3.heap.size, 0, none⟩) 1 1] 37))
  have HR3 := Lib.hid (RowsD.lit (w := w3) (D := fun k => k < w3.heap.size) (fun k hk => hk) x (xs := [n]) (cs := #[.int .u64 n]) rfl (by simp))
  go_wp2_with fail
  refine (HF3.out.seal HA3.out hx8 HR3.out (by simp) (rowsB_one hx8 (by omega)) (by intro r hr; simp at hr; subst hr; intro z hz; simp at hz; omega) (by intro r hr; simp at hr; subst hr; rfl) (by show 0 ≤ _; decide) (by decide)).mono ?_
  rintro e w4 ⟨rfl, hf4⟩
  rw [(sl_2 hn.1 hn.2).1]
  rw [(sl_2 hn.1 hn.2).2] at hf4
  have HF4 := Lib.hid hf4
  have hw1 : IntKind.u64.wrap (n + 1) = n + 1 := IntWalk.u64_in _ (by omega)
  clear hf4 HF3 HA3 HR3
  have HA4 := Lib.hid (((Below.refl w4.heap.size w4).alloc (Nat.le_refl _) (.cells #[.int .u64 (n + 1)] 39)).alloc (by simp) (.cells #[.int .i64 x, .slice (some ⟨w4.heap.size, 0, none⟩) 1 1] 37))
  have HR4 := Lib.hid (RowsD.lit (w := w4) (D := fun k => k < w4.heap.size) (fun k hk => hk) x (xs := [(n + 1)]) (cs := #[.int .u64 (n + 1)]) rfl (by simp))
  go_wp2_with fail
  refine (HF4.out.cut HA4.out HR4.out (by simp) (rowsB_one hx8 (by omega)) (by intro r hr; simp at hr; subst hr; intro z hz; simp at hz; omega) (by show 1 ≤ _; decide) (by decide)).mono ?_
  rintro e w5 ⟨rfl, hf5⟩
  rw [(sl_3 x n _).1]
  rw [(sl_3 x n _).2] at hf5
  have HF5 := Lib.hid hf5
  clear hf5 HF4 HA4 HR4
  go_wp2_with fail
  refine (HF5.out.seal (Below.refl _ _) hx8 (RowsD.nil _ _) (by decide) (by decide) (by intro r hr; cases hr) (by intro r hr; cases hr) (by show 1 ≤ _; decide) (by decide)).mono ?_
  rintro e w6 ⟨rfl, hf6⟩
  rw [(sl_4 x n).1]
  rw [(sl_4 x n).2] at hf6
  have HF6 := Lib.hid hf6
  clear hf6 HF5
  go_wp2_with fail
  refine (HF6.out.added (shard := x) (sg := 1) hx8 (by decide) (by decide) (by decide)).mono ?_
  rintro e w7 ⟨rfl, hf7⟩
  rw [(sl_5 x n).1]
  rw [(sl_5 x n).2] at hf7
  have HF7 := Lib.hid hf7
  clear hf7 HF6
  go_wp2_with fail
  refine (HF7.out.len).mono ?_
  rintro e w8 ⟨rfl, rfl⟩
  rw [show (sl2 x n).n = n from rfl]
  have HA7 := Lib.hid (((Below.refl w7.heap.size w7).alloc (Nat.le_refl _) (.cells #[.int .u64 1] 39)).alloc (by simp) (.cells #[.int .i64 y, .slice (some ⟨w7.heap.size, 0, none⟩) 1 1] 37))
  have HR7 := Lib.hid (RowsD.lit (w := w7) (D := fun k => k < w7.heap.size) (fun k hk => hk) y (xs := [1]) (cs := #[.int .u64 1]) rfl (by simp))
  go_wp2_with fail
  by_cases hxy : y = x
  · subst hxy
    refine (HF7.out.cut HA7.out HR7.out (by simp) (rowsB_one hx8 (by decide)) (by intro r hr; simp at hr; subst hr; intro z hz; simp at hz; omega) (by show 1 ≤ _; decide) (by decide)).mono ?_
    rintro e w9 ⟨rfl, hf9⟩
    rw [(sl_3 y n _).1]
    have HB := Lib.hid hf9.below
    clear hf9
    go_wp2_with fail
    go_ret
    exact ⟨by first | rfl | simp, HB.out⟩
  · refine (HF7.out.cut HA7.out HR7.out (by simp) (rowsB_one hy8 (by decide)) (by intro r hr; simp at hr; subst hr; intro z hz; simp at hz; omega) (by show 1 ≤ _; decide) (by decide)).mono ?_
    rintro e w9 ⟨rfl, hf9⟩
    rw [(sl_6 n hxy _).1]
    rw [(sl_6 n hxy _).2] at hf9
    have HF9 := Lib.hid hf9
    have hxb : (x == y) = false := by simpa using fun e => hxy e.symm
    have HXY := Lib.hid hxy
    clear hf9 HF7 HA7 HR7 hxy
    go_wp2_with fail
    refine (HF9.out.added (shard := y) (sg := 1) hy8 (by decide) (by decide) (by decide)).mono ?_
    rintro e w10 ⟨rfl, hf10⟩
    rw [(sl_7 n HXY.out).1]
    rw [(sl_7 n HXY.out).2] at hf10
    have HF10 := Lib.hid hf10
    clear hf10 HF9
    have HA10 := Lib.hid (((Below.refl w10.heap.size w10).alloc (Nat.le_refl _) (.cells #[.int .u64 1] 39)).alloc (by simp) (.cells #[.int .i64 y, .slice (some ⟨w10.heap.size, 0, none⟩) 1 1] 37))
    have HR10 := Lib.hid (RowsD.lit (w := w10) (D := fun k => k < w10.heap.size) (fun k hk => hk) y (xs := [1]) (cs := #[.int .u64 1]) rfl (by simp))
    go_wp2_with fail
    refine (HF10.out.cut HA10.out HR10.out (by simp) (rowsB_one hy8 (by decide)) (by intro r hr; simp at hr; subst hr; intro z hz; simp at hz; omega) (by show 1 ≤ _; decide) (by decide)).mono ?_
    rintro e w11 ⟨rfl, hf11⟩
    rw [(sl_8 hn.2).1]
    have HF11 := Lib.hid hf11
    clear hf11 HF10 HA10 HR10
    go_wp2_with fail
    refine (HF11.out.len).mono ?_
    rintro e w12 ⟨rfl, rfl⟩
    rw [(sl_8 hn.2).2]
    go_wp2_with fail
    go_ret
    exact ⟨by first | rfl | simp, HF11.out.below⟩
theorem foldSeals_holds : Rows.FoldSealsSaid :=
  OpenClaim.holds_of_wide 6 Try.f6 rfl rfl rfl rfl rfl rfl rfl ⟨rfl, rfl, rfl, rfl, rfl⟩ rfl rfl rfl rfl rfl (by kernel_rfl) Try.func6 (by kernel_rfl)
    (of_decide_eq_true (by kernel_rfl)) (by unfold Func.isWrapper; rw [if_neg (by decide +kernel)]; exact ⟨rfl, rfl⟩)
    (fun os started H enc _ => law_frame (C := Try.checked) (fn := Try.f6) (s := Rows.foldSealsSpec) (tb := 4) Try.own started (by kernel_rfl) Try.func6 Try.laidOut rfl (by kernel_rfl) Try.underlying4 (by kernel_rfl)
      (fun ds hd => by match ds, hd with | [_, _, _], _ => exact ⟨rfl, rfl, rfl⟩)
      (ChangeSpec.witness6 (enc := enc) (C := Try.checked) false ⟨#[], #[.int .u8 0, .int .u8 0, .int .u8 0], []⟩ 8 (by kernel_rfl) (by kernel_rfl) (by kernel_rfl) (by kernel_rfl))
      (fun W base args ds p hval0 hA0 _ => by
        have hval : ∀ (j : Nat) t v, Try.f6.params[j]? = some t → args[j]? = some v → Value.okWide Try.prog W .any base t v := hval0
        have hA : DataW.TrodAll enc Try.prog W 0 (fun _ => true) true Try.f6.params.toList args.toList ds p := hA0
        rw [Try.params6] at hA hval
        obtain ⟨v0, v1, v2, d0, d1, d2, p0, p1, p2, rfl, rfl, rfl, h0, h1, h2⟩ := trodAll_three hA
        obtain ⟨x0, rfl, rfl, rfl, wx0⟩ := open_int Try.underlying5 (hval 0 5 v0 rfl rfl) h0
        obtain ⟨x1, rfl, rfl, rfl, wx1⟩ := open_int Try.underlying5 (hval 1 5 v1 rfl rfl) h1
        obtain ⟨x2, rfl, rfl, rfl, wx2⟩ := open_int Try.underlying5 (hval 2 5 v2 rfl rfl) h2
        exact foldSeals_walk wx0 wx1 wx2))

end Go.Proofs.Ytabanackdjlcmaa
