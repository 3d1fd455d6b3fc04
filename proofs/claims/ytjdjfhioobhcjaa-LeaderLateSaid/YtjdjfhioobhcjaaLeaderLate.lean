/-
  LeaderLate: a promise that comes late, twice, of another ballot, or of a stranger, changes nothing. No conditions.
-/
import Derived.Test.YtjdjfhioobhcjaaLeaX
namespace Go.Proofs.Ytjdjfhioobhcjaa
open Go.ChangeShapes Go.WideShapes Go.ChangeAt Go.RowKit Go.Maps
set_option maxRecDepth 100000

def ltV (xs : List Int) (k : Nat) : List Vt := (List.range k).map (fun (i : Nat) => (⟨(i : Int), 4, [xs.getD i 0]⟩ : Vt))
theorem ltV_len (xs : List Int) (k : Nat) : (ltV xs k).length = k := by unfold ltV; simp
theorem ltV_succ {xs : List Int} {k : Nat} {x : Int} (h : xs[k]? = some x) : ltV xs (k + 1) = ltV xs k ++ [⟨(k : Int), 4, [x]⟩] := by
  unfold ltV
  rw [List.range_succ, List.map_append]
  simp [h]
theorem ltV_ok {xs : List Int} (h : U8 xs) (k : Nat) (hk : k ≤ xs.length) (hl : xs.length ≤ 1000) : VtsOk (ltV xs k) := by
  intro v hv
  obtain ⟨i, hi, rfl⟩ := List.mem_map.1 hv
  have hik := List.mem_range.1 hi
  have hg : xs[i]? = some xs[i] := List.getElem?_eq_getElem (by omega)
  have := h _ (List.mem_of_getElem? hg)
  refine ⟨⟨by show (0 : Int) ≤ (i : Int); omega, by show (i : Int) ≤ _; omega⟩, ⟨by show (0 : Int) ≤ 4; decide, by show (4 : Int) ≤ _; decide⟩, ?_, by simp⟩
  intro y hy
  simp at hy
  subst hy
  simp only [hg, Option.getD_some]
  exact this
def lt1 : LS := beginL (newLS 3) 5 0
def lt2 : LS := promV lt1 1 0 []
def lt3 : LS := promV lt2 0 0 []
def lt4 : LS := leadL lt3 0
theorem lt3_end : IsEnd lt3 0 := ⟨⟨Int.le_refl _, by constructor <;> decide⟩, fun s hs _ => (by cases hs), Or.inl rfl⟩
theorem lt3_near : ¬ farL lt3 := by rintro ⟨s, hs, _⟩; cases hs
set_option maxHeartbeats 4000000 in
theorem leaderLate_walk {x0 x1 : Int} {v2 : Value} {xs : List Int} (w0 : (Lit.int .i64 x0).wf = true) (w1 : (Lit.int .u8 x1).wf = true) {W : World} (h2 : SlR W v2 (u8s xs)) (w2 : ∀ x ∈ xs, (Lit.int .u8 x).wf = true) :
    Calls Try.prog 11 #[.int .i64 x0, .int .u8 x1, v2] W fun e W' => e = .returned (.bool true) ∧ Below W.heap.size W W' := by
  simp [Lit.wf, IntKind.min, IntKind.max, IntKind.signed, IntKind.bits] at w0 w1
  obtain ⟨a0, a1⟩ := w0
  obtain ⟨c0, c1⟩ := w1
  have h8 := u8_of_wf w2
  have H2 := Lib.hid h2
  have H8 := Lib.hid h8
  obtain ⟨xo, xc, rfl, hxc, hxm⟩ := h2.form
  simp only [List.length_map] at H2 hxc ⊢
  obtain ⟨i0, hi, hz0, hz1, hz2⟩ := info_parts Try.voteInfo
  have kc := fun (w : World) (C : Array Value) (n c : Nat) => Lib.run_convert_bytes_const (P := Try.prog) w 30 5 C n c Try.underlying30 Try.underlying5
  have hw1 : IntKind.u64.wrap x1 = x1 := IntWalk.u64_in _ (by omega)
  clear h2 w2 h8
  go_enter Try.func11, Try.ntmps11
  go_wp2_with fail
  refine (lawake_any W).mono ?_
  rintro e w1 ⟨rfl, hb1⟩
  have HB1 := Lib.hid hb1
  clear hb1
  by_cases hlen : xs.length ≤ 10
  rotate_left
  · have hli : (10 : Int) < (xs.length : Int) := by omega
    go_wp2_with fail
    go_ret
    exact ⟨rfl, HB1.out⟩
  · have hli : decide ((10 : Int) < (xs.length : Int)) = false := decide_eq_false (by omega)
    go_wp2_with fail
    refine ((SepW.nil HB1.out).leaNew (many := 3) (by decide)).mono ?_
    rintro e w1 ⟨b0, D, rfl, hs1⟩
    have HS1 := Lib.hid hs1
    clear hs1 HB1
    go_wp2_with fail
    refine (HS1.out.leaBegin 0 rfl (b := 5) (fr := 0) (by decide) (by constructor <;> decide) (by constructor <;> decide)).mono ?_
    rintro e w2 ⟨rfl, D2, hs2⟩
    have HS2 : Hid (SepW W w2 [obVts (.slice none (ltV xs 0).length 0) 39 [] (ltV xs 0), obLea (.pointer (some ⟨b0, 0, none⟩)) D2 0 lt1]) := Lib.hid (SepW.vtsNil hs2 39)
    clear hs2 HS1
    go_wp2_with fail
    go_loopw [11, 10] (fun i ov wr => ∃ (k : Nat) (vs : List Value) (ao : Option Addr) (c : Nat), k ≤ xs.length ∧ i = .int .i64 k ∧ ov = .slice ao (ltV xs k).length c ∧ SepW W wr [obVts (.slice ao (ltV xs k).length c) 39 vs (ltV xs k), obLea (.pointer (some ⟨b0, 0, none⟩)) D2 0 lt1]) (fun i _ _ => xs.length - (intOf i).toNat)
    case atStart => exact ⟨0, [], none, 0, by omega, rfl, rfl, HS2.out⟩
    case round =>
      clear HS2
      obtain ⟨k, vs, ao, c, hk, rfl, rfl, hsep⟩ := hrel
      have HSk := Lib.hid hsep
      clear hsep
      by_cases hlt : k < xs.length
      · have hki : (k : Int) < (xs.length : Int) := by omega
        obtain ⟨x, hx⟩ : ∃ x, xs[k]? = some x := ⟨_, List.getElem?_eq_getElem hlt⟩
        obtain ⟨xo', xc', hxe, _, _, hxx⟩ := (H2.out.below HSk.out.below (Nat.le_refl _))
        simp only [List.length_map] at hxe
        cases hxe
        obtain ⟨xa, rfl, hxm2⟩ := hxx k (.int .u8 x) (by rw [List.getElem?_map, hx]; rfl)
        have hwk : IntKind.u64.wrap (k : Int) = (k : Int) := IntWalk.u64_in _ (by omega)
        have HTk := Lib.hid (ltV_succ hx)
        have HS5 : Hid (SepW W (wr.alloc (.cells #[.int .u8 x] 5)) [obRow (.slice (some ⟨wr.heap.size, 0, none⟩) 1 1) 5 1 1 (u8s [x]), obVts (.slice ao (ltV xs k).length c) 39 vs (ltV xs k), obLea (.pointer (some ⟨b0, 0, none⟩)) D2 0 lt1]) := Lib.hid (HSk.out.litRow [.int .u8 x] 5 (by simp))
        have HO5 := Lib.hid ((HS5.out.get 1 rfl : (obVts (.slice ao (ltV xs k).length c) 39 vs (ltV xs k)).inv _).1)
        have hkl := ltV_len xs k
        have hk40 : (ltV xs k).length ≤ 1099511627776 := by omega
        have HU4 : Hid (∀ u ∈ (#[.int .u64 (k : Int), .int .u64 4, .slice (some ⟨wr.heap.size, 0, none⟩) 1 1] : Array Value).toList, u.oneCell' = true) := Lib.hid (by intro u hu; simp at hu; rcases hu with rfl | rfl | rfl <;> rfl)
        clear hxx hx hkl
        go_wp2_with (first
          | (at_builtin; (refine wpList_appS rfl (.tmp 47) (.tmp 56) 33 rfl 0 39 i0 _ 3 40 Try.underlying33 hi hz0 hz1 hz2 rfl (by decide) (by decide) rfl rfl (by simp) rfl HO5.out HU4.out hk40 (Nat.zero_le _) ?_)
             intro g7 cap7 w7 hown7 hg7 hor7
             have HOwn7 := Lib.hid hown7
             have HG7 := Lib.hid hg7
             have HOr7 := Lib.hid hor7
             clear hown7 hg7 hor7)
          | fail)
        obtain ⟨l, _, rfl, hsA⟩ := HS5.out.vtApp 1 0 (by decide) (s := ⟨(k : Int), 4, [x]⟩) rfl rfl HG7.out HOr7.out HOwn7.out
        have hll : (ltV xs k).length + 1 = (ltV xs (k + 1)).length := by rw [HTk.out]; simp
        rw [hll] at hsA
        rw [← HTk.out] at hsA
        have HLL := Lib.hid hll
        have HSA : Hid (SepW W w7 [obVts (.slice (some ⟨g7, 0, none⟩) (ltV xs (k + 1)).length cap7) 39 (vs ++ [.int .u64 (k : Int), .int .u64 4, .slice (some ⟨wr.heap.size, 0, none⟩) 1 1]) (ltV xs (k + 1)), obLea (.pointer (some ⟨b0, 0, none⟩)) D2 0 lt1]) := Lib.hid hsA
        clear hsA hll
        go_roundw
        case rel => exact ⟨k + 1, _, _, _, by omega, by go_num, by rw [← HLL.out], HSA.out⟩
        case measure => simp [intOf]; omega
      · have hkl : k = xs.length := by omega
        subst hkl
        have hkd : decide ((xs.length : Int) < (xs.length : Int)) = false := decide_eq_false (by omega)
        have HVO := Lib.hid (ltV_ok H8.out xs.length (Nat.le_refl _) (by omega))
        have hvl : (ltV xs xs.length).length ≤ 10 := by rw [ltV_len]; exact hlen
        generalize ltV xs xs.length = vl at *
        clear hlt hk
        go_wp2_with fail
        refine (HSk.out.leaProm 1 rfl (n := 1) (b := 5) (low := 0) (hs := []) ⟨rfl, rfl, by decide, by decide⟩ rfl (by constructor <;> decide) (fun w' _ => VtL.nil w') (by intro v hv; cases hv) (by decide)).mono ?_
        rintro e w3 (⟨_, rfl, D3, hs3⟩ | ⟨hm, _⟩ | ⟨hm, _⟩)
        rotate_left
        · exact absurd hm (by decide)
        · exact absurd hm (by decide)
        have HS3 : Hid (SepW W w3 [obVts (.slice ao vl.length c) 39 vs vl, obLea (.pointer (some ⟨b0, 0, none⟩)) D3 0 lt2]) := Lib.hid hs3
        clear hs3 HSk
        go_wp2_with fail
        refine (HS3.out.leaPromTwice 1 rfl (n := 1) (b := 5) (low := 0) (v := .slice ao vl.length c) ⟨rfl, rfl, by decide, by decide⟩ rfl).mono ?_
        rintro e w4 ⟨rfl, rfl⟩
        go_upto_region 16 with fail
        go_cut [78] from 69 (fun s78 wc => s78 = .bool (decide (x0 < 0) || decide (2 < x0) || (x1 != 5)) ∧ SepW W wc [obVts (.slice ao vl.length c) 39 vs vl, obLea (.pointer (some ⟨b0, 0, none⟩)) D3 0 lt2])
        case first =>
          by_cases hx0 : x0 < 0
          · have hd0 : decide (x0 < 0) = true := decide_eq_true hx0
            go_wp2_with fail
            go_meet
            case rel => exact ⟨by simp [hx0], HS3.out⟩
          · have hd0 : decide (x0 < 0) = false := decide_eq_false hx0
            by_cases hx2 : 2 < x0
            · have hd2 : decide (2 < x0) = true := decide_eq_true hx2
              go_wp2_with fail
              go_meet
              case rel => exact ⟨by simp [hx2], HS3.out⟩
            · have hd2 : decide (2 < x0) = false := decide_eq_false hx2
              go_wp2_with fail
              go_meet
              case rel => exact ⟨by (simp; intro h; omega), HS3.out⟩
        case rest =>
          obtain ⟨rfl, hs3⟩ := hcut
          clear HS3
          have HS3 := Lib.hid hs3
          clear hs3
          have hno : (decide (x0 < 0) || decide (2 < x0) || (x1 != 5)) = true → ¬ (lt2.stage = 1 ∧ x1 = lt2.ballot ∧ 0 ≤ x0 ∧ x0 < lt2.many) := fun hd h => by
            have h3 : lt2.many = 3 := rfl
            have h5 : lt2.ballot = 5 := rfl
            simp at hd
            omega
          generalize (decide (x0 < 0) || decide (2 < x0) || (x1 != 5)) = st at *
          have HNo := Lib.hid hno
          clear hno
          go_upto_if 78 with fail
          go_cut [16, 17] from 69 (fun _ _ wc => SepW W wc [obVts (.slice ao vl.length c) 39 vs vl, obLea (.pointer (some ⟨b0, 0, none⟩)) D3 0 lt2])
          case first =>
            cases st
            · go_wp2_with fail
              go_meet
              case rel => exact HS3.out
            · go_wp2_with fail
              refine (HS3.out.leaPromNo 1 rfl (node := x0) (b := x1) (low := 0) (v := .slice ao vl.length c) (HNo.out (by first | rfl | trivial))).mono ?_
              rintro e w4 ⟨rfl, rfl⟩
              go_wp2_with fail
              refine (HS3.out.leaLeads 1 rfl).mono ?_
              rintro e w4 ⟨rfl, rfl⟩
              rw [show (lt2.stage == 2) = false from rfl]
              go_wp2_with fail
              go_meet
              case rel => exact HS3.out
          case rest =>
            clear HS3
            have HS3 := Lib.hid hcut
            clear hcut
            go_wp2_with fail
            refine (HS3.out.leaProm 1 rfl (n := 0) (b := 5) (low := 0) (hs := []) ⟨rfl, rfl, by decide, by decide⟩ rfl (by constructor <;> decide) (fun w' _ => VtL.nil w') (by intro v hv; cases hv) (by decide)).mono ?_
            rintro e w5 (⟨hm, _⟩ | ⟨_, hf, _⟩ | ⟨_, _, en, D4, ks, bo, bc, bvs, hen, hks, rfl, hs4⟩)
            · exact absurd (by decide) hm
            · exact absurd hf lt3_near
            obtain rfl : en = 0 := hen.unique lt3_end
            have hop : opL (leadP lt3 0) ks = [] := lead_votes (n := 0) hks (fun _ => rfl) rfl
            have hop2 : opL (leadP (promV lt2 0 0 []) 0) ks = [] := hop
            rw [hop2] at hs4 ⊢
            have HS4 : Hid (SepW W w5 [obVts (.slice ao vl.length c) 39 vs vl, obLea (.pointer (some ⟨b0, 0, none⟩)) D4 4097 lt4]) := Lib.hid (hs4.sub (List.sublist_cons_self _ _))
            clear hs4 hop hop2 hks hen HS3
            go_wp2_with fail
            refine (HS4.out.leaPromNo 1 rfl (node := 2) (b := 5) (low := 0) (v := .slice ao vl.length c) (by rintro ⟨h, _⟩; exact absurd h (by decide))).mono ?_
            rintro e w6 ⟨rfl, rfl⟩
            go_wp2_with fail
            have hba := below_lit w5 (.cells (u8s [120]).toArray 5 (1, 2))
            refine ((HS4.out.step hba).leaPropose 1 rfl (xs := [120]) (lit_u8 w5 [120] _ _ (by decide)) (by intro x hx; simp at hx; omega) (by decide) rfl (by decide) (by decide)).mono ?_
            rintro e w7 ⟨po, pc, D5, rfl, hs5⟩
            have HS5 := Lib.hid hs5
            clear hs5 hba HS4
            rw [show lt4.next = 0 from rfl, show lt4.ballot = 5 from rfl]
            go_wp2_with fail
            go_ret
            exact ⟨rfl, HS5.out.below.trans ((below_lit w7 _).mono HS5.out.below.size)⟩
theorem leaderLate_holds : Rows.LeaderLateSaid :=
  OpenClaim.holds_of_wide 11 Try.f11 rfl rfl rfl rfl rfl rfl rfl ⟨rfl, rfl, rfl, rfl, rfl⟩ rfl rfl rfl rfl rfl (by kernel_rfl) Try.func11 (by kernel_rfl)
    (of_decide_eq_true (by kernel_rfl)) (by unfold Func.isWrapper; rw [if_neg (by decide +kernel)]; exact ⟨rfl, rfl⟩)
    (fun os started H enc _ => law_frame (C := Try.checked) (fn := Try.f11) (s := Rows.leaderLateSpec) (tb := 4) Try.own started (by kernel_rfl) Try.func11 Try.laidOut rfl (by kernel_rfl) Try.underlying4 (by kernel_rfl)
      (fun ds hd => by match ds, hd with | [_, _, _], _ => exact ⟨rfl, rfl, rfl⟩)
      (ChangeSpec.witness6 (enc := enc) (C := Try.checked) false ⟨#[], #[.int .i64 0, .int .u8 0, .slice none 0 0], []⟩ 8 (by kernel_rfl) (by kernel_rfl) (by kernel_rfl) (by kernel_rfl))
      (fun W base args ds p hval0 hA0 _ => by
        have hval : ∀ (j : Nat) t v, Try.f11.params[j]? = some t → args[j]? = some v → Value.okWide Try.prog W .any base t v := hval0
        have hA : DataW.TrodAll enc Try.prog W 0 (fun _ => true) true Try.f11.params.toList args.toList ds p := hA0
        rw [Try.params11] at hA hval
        obtain ⟨v0, v1, v2, d0, d1, d2, p0, p1, p2, rfl, rfl, rfl, h0, h1, h2⟩ := trodAll_three hA
        obtain ⟨x0, rfl, rfl, rfl, wx0⟩ := open_int Try.underlying3 (hval 0 3 v0 rfl rfl) h0
        obtain ⟨x1, rfl, rfl, rfl, wx1⟩ := open_int Try.underlying5 (hval 1 5 v1 rfl rfl) h1
        obtain ⟨x2, hx2, wx2⟩ := arg_ints Try.underlying30 Try.underlying5 (by kernel_rfl) (hval 2 30 v2 rfl rfl) h2
        exact leaderLate_walk wx0 wx1 hx2 wx2))

end Go.Proofs.Ytjdjfhioobhcjaa
