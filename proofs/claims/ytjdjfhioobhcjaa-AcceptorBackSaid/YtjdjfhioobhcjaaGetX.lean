/-
  Package acceptor: votes of bytes: Get.
-/
import Derived.Test.YtjdjfhioobhcjaaGetW
namespace Go.Proofs.Ytjdjfhioobhcjaa
open Go.ChangeShapes Go.WideShapes Go.ChangeAt Go.RowKit Go.Maps
set_option maxRecDepth 100000

/-- What 'Get' comes to. -/
def RetGet (q : Int × List Vt) (w : World) (e : Ending) (w' : World) : Prop :=
  ∃ ao c vs, e = .returned (.tuple #[.slice ao q.2.length c, .int .i64 q.1]) ∧ SepW w w' [obVts (.slice ao q.2.length c) 39 vs q.2]
theorem RetGet.bad {w w' : World} {os : List Ob} {q : Int × List Vt} {x : Int} (h : SepW w w' os) (hq : q = (x, [])) : RetGet q w (.returned (.tuple #[.slice none 0 0, .int .i64 x])) w' := by
  subst hq
  refine ⟨none, 0, [], rfl, ((SepW.nil h.below).new (Below.refl _ _) (obVts_good ..) ⟨World.ownsRow_nil _ _ _ _, VtC.nil _, by intro u hu; cases hu⟩ (fun k hk => ?_))⟩
  rcases hk with hk | ⟨u, hu, _⟩
  · cases hk
  · cases hu
theorem notAbove_nil (x : Int) : notAbove [] x = false := rfl
theorem notAbove_last {out : List Vt} {v : Vt} (h : out[out.length - 1]? = some v) (x : Int) : notAbove out x = decide (x ≤ v.slot) := by
  unfold notAbove
  rw [List.getLast?_eq_getElem?, h]
set_option maxHeartbeats 4000000 in
theorem get_any {w : World} {sv : Value} {xs : List Int} (h : SlR w sv (u8s xs)) (h8 : U8 xs) (hl : xs.length ≤ 1000000) :
    Calls Try.prog 47 #[sv] w (RetGet (getV xs) w) := by
  have HSv := Lib.hid h
  obtain ⟨so, sc, rfl, hsc1, hsc2⟩ := h.form
  simp only [List.length_map] at HSv hsc1 ⊢
  obtain ⟨i0, hi, hz0, hz1, hz2⟩ := info_parts Try.voteInfo
  obtain ⟨q, hq⟩ : ∃ q, getV xs = q := ⟨_, rfl⟩
  rw [hq]
  have HQ0 := Lib.hid hq
  have H8 := Lib.hid h8
  clear h h8 hq
  go_enter Try.func47, Try.ntmps47
  go_wp2_with fail
  refine ((SepW.nil (Below.refl w.heap.size w)).rdNew HSv.out H8.out (by omega)).mono ?_
  rintro e w1 ⟨b0, D, rfl, hs1⟩
  have HS1 := Lib.hid hs1
  clear hs1
  go_wp2_with fail
  refine (HS1.out.rdUint 0 rfl).mono ?_
  rintro e w2 ⟨rfl, hs2⟩
  have HQ1 : Hid (getL (rU ⟨xs, 0⟩).2.toNat (rU ⟨xs, 0⟩).1 [] = q) := Lib.hid HQ0.out
  obtain ⟨hn0, hn1⟩ := rU_bd (r := ⟨xs, 0⟩) H8.out (by show xs.length ≤ 1000000000; omega)
  have hlb : (rU ⟨xs, 0⟩).1.b.length ≤ xs.length := rU_le ⟨xs, 0⟩
  have HS2 : Hid (SepW w w2 [obRd (.pointer (some ⟨b0, 0, none⟩)) D (rU ⟨xs, 0⟩).1]) := Lib.hid hs2
  clear hs2 HS1 HQ0
  generalize (rU ⟨xs, 0⟩).1 = r0 at *
  generalize (rU ⟨xs, 0⟩).2 = n0 at *
  obtain ⟨n, rfl⟩ := Int.eq_ofNat_of_zero_le hn0
  rw [Int.toNat_natCast] at HQ1
  have HU0 : Hid (U1 (n : Int)) := Lib.hid ⟨hn0, hn1⟩
  clear hn0 hn1
  have HS3 : Hid (SepW w w2 [obVts (.slice none 0 0) 39 [] [], obRd (.pointer (some ⟨b0, 0, none⟩)) D r0]) := Lib.hid (HS2.out.new (Below.refl _ _) (obVts_good ..) ⟨World.ownsRow_nil _ _ _ _, VtC.nil _, by intro u hu; cases hu⟩ (fun k hk => by
    rcases hk with hk | ⟨u, hu, _⟩
    · cases hk
    · cases hu))
  clear HS2
  go_wp2_with fail
  go_loopw [6, 5] (fun nv ov wr => ∃ (m : Nat) (out : List Vt) (r : RS) (ao : Option Addr) (c : Nat) (vs : List Value), nv = .int .u64 m ∧ ov = .slice ao out.length c ∧ U1 (m : Int) ∧ SepW w wr [obVts (.slice ao out.length c) 39 vs out, obRd (.pointer (some ⟨b0, 0, none⟩)) D r] ∧ getL m r out = q ∧ out.length + r.b.length ≤ xs.length) (fun nv _ _ => (intOf nv).toNat)
  case atStart => exact ⟨n, [], r0, none, 0, [], rfl, rfl, HU0.out, HS3.out, HQ1.out, by simpa using hlb⟩
  case round =>
    clear HS3 HQ1 HU0
    obtain ⟨m, out, r, ao, c, vs, rfl, rfl, hu, hsep, hq, hlen⟩ := hrel
    have HSk := Lib.hid hsep
    have HQ := Lib.hid hq
    have HU := Lib.hid hu
    clear hsep hq hu
    cases m with
    | zero =>
      have hd : decide ((0 : Int) < ((0 : Nat) : Int)) = false := by simp
      have hq2 : q = if rEnd r ≠ 0 then (rEnd r, []) else (0, out) := by rw [← HQ.out]; rfl
      have HQ2 := Lib.hid hq2
      clear hq2
      go_wp2_with fail
      refine (HSk.out.rdEnd 1 rfl).mono ?_
      rintro e w4 ⟨rfl, rfl⟩
      by_cases he : rEnd r = 0
      · have hb : (rEnd r != 0) = false := by simp [he]
        have hq3 := HQ2.out
        rw [if_neg (by simp [he])] at hq3
        have HQ3 := Lib.hid hq3
        clear hq3 he
        go_wp2_with fail
        refine bodyPost_ret (v := .tuple #[.slice ao out.length c, .int .i64 0]) (by simp [results, Try.results47, go_sem]) rfl ?_
        rw [HQ3.out]
        exact ⟨ao, c, vs, rfl, HSk.out.sub (List.sublist_append_left [_] _)⟩
      · have hb : (rEnd r != 0) = true := by simp [he]
        have hq3 := HQ2.out
        rw [if_pos he] at hq3
        have HQ3 := Lib.hid hq3
        clear hq3 he
        go_wp2_with fail
        refine bodyPost_ret (v := .tuple #[.slice none 0 0, .int .i64 (rEnd r)]) (by simp [results, Try.results47, go_sem]) rfl ?_
        exact RetGet.bad HSk.out HQ3.out
    | succ m =>
      have hd : decide ((0 : Int) < ((m + 1 : Nat) : Int)) = true := decide_eq_true (by omega)
      have hd2 : (0 : Int) < ((m + 1 : Nat) : Int) := by omega
      go_wp2_with fail
      refine (HSk.out.rdUint 1 rfl).mono ?_
      rintro e w4 ⟨rfl, hs4⟩
      obtain ⟨a, ha⟩ : ∃ a, rU r = a := ⟨_, rfl⟩
      rw [ha] at hs4 ⊢
      have HA := Lib.hid ha
      have HS4 : Hid (SepW w (w4.alloc (.cells #[.int .u64 a.2, .int .u64 0, .slice none 0 0] 39)) [obBlk w4.heap.size (.cells #[.int .u64 a.2, .int .u64 0, .slice none 0 0] 39), obVts (.slice ao out.length c) 39 vs out, obRd (.pointer (some ⟨b0, 0, none⟩)) D a.1]) := Lib.hid (hs4.newBlk #[.int .u64 a.2, .int .u64 0, .slice none 0 0] 39)
      clear hs4 ha HSk
      obtain ⟨a1, a2⟩ := a
      simp only at HS4 ⊢
      go_wp2_with fail
      refine (HS4.out.rdErr 2 rfl).mono ?_
      rintro e w5 ⟨rfl, rfl⟩
      by_cases he : a1.e = 0
      · have hb : (a1.e != 0) = false := by simp [he]
        have HE := Lib.hid he
        clear he
        by_cases hna : notAbove out a2 = true
        · obtain ⟨v, hv⟩ : ∃ v, out[out.length - 1]? = some v := by
            cases hg : out[out.length - 1]? with
            | none => rw [notAbove, List.getLast?_eq_getElem?, hg] at hna; cases hna
            | some v => exact ⟨v, rfl⟩
          have hpos : 0 < out.length := by have := (List.getElem?_eq_some_iff.1 hv).1; omega
          rw [notAbove_last hv, decide_eq_true_eq] at hna
          have hq3 : q = (11, []) := by
            rw [← HQ.out]
            exact getL_two (by rw [HA.out]; exact HE.out) (by rw [HA.out, notAbove_last hv]; exact decide_eq_true hna)
          have HQ3 := Lib.hid hq3
          clear hq3
          obtain ⟨_, _, e0, hl1, hl2, hvx⟩ := HS4.out.vtL 1 rfl
          cases e0
          obtain ⟨oa, _, rfl, c0, _⟩ := hvx _ _ hv
          obtain ⟨x0, _⟩ := HS4.out.blk 0 rfl 0 _ rfl
          have hpi : (0 : Int) < (out.length : Int) := by omega
          have hw1 : IntKind.i64.wrap ((out.length : Int) - 1) = (out.length : Int) - 1 := IntWalk.i64_in _ (by omega)
          have hw2 : 0 ≤ (out.length : Int) - 1 := by omega
          have hw3 : ((out.length : Int) - 1).toNat = out.length - 1 := by omega
          have hw4 : (out.length : Int) - 1 < (out.length : Int) := by omega
          have hgd : decide (a2 ≤ v.slot) = true := decide_eq_true hna
          clear hvx hv hna
          go_wp2_with fail
          go_quiet (fail)
          go_wp2_with fail
          refine bodyPost_ret (v := .tuple #[.slice none 0 0, .int .i64 11]) (by simp [results, Try.results47, go_sem]) rfl ?_
          exact RetGet.bad (HS4.out.drewN _) HQ3.out
        · have hnf : notAbove out a2 = false := by simpa using hna
          have HNf := Lib.hid hnf
          have hor : out.length = 0 ∨ ∃ v, out[out.length - 1]? = some v ∧ ¬ a2 ≤ v.slot := by
            by_cases h0 : out.length = 0
            · exact Or.inl h0
            · have hv : out[out.length - 1]? = some out[out.length - 1] := List.getElem?_eq_getElem (by omega)
              exact Or.inr ⟨_, hv, by rw [notAbove_last hv] at hnf; simpa using hnf⟩
          clear hna hnf
          rcases hor with h0 | ⟨v, hv, hna⟩
          · have hpi : decide ((0 : Int) < (out.length : Int)) = false := decide_eq_false (by omega)
            have hpn : decide (0 < out.length) = false := decide_eq_false (by omega)
            clear h0
            go_wp2_with fail
            go_quiet (fail)
            clear hpi hpn
            go_wp2_with fail
            refine ((HS4.out.drewN _).rdUint 2 rfl).mono ?_
            rintro e w6 ⟨rfl, hs6⟩
            have hw1 : IntKind.u64.wrap (((m + 1 : Nat) : Int) - 1) = (m : Int) := by
              rw [show ((m + 1 : Nat) : Int) - 1 = (m : Int) by omega]
              have := HU.out
              unfold U1 at this
              exact IntWalk.u64_in _ (by omega)
            have HW1 := Lib.hid hw1
            have HWm : Hid (IntKind.u64.wrap (m : Int) = (m : Int)) := Lib.hid (by rw [show ((m + 1 : Nat) : Int) - 1 = (m : Int) by omega] at hw1; exact hw1)
            obtain ⟨p, hp⟩ : ∃ p, rU a1 = p := ⟨_, rfl⟩
            rw [hp] at hs6 ⊢
            have HP := Lib.hid hp
            obtain ⟨p1, p2⟩ := p
            simp only at hs6 ⊢
            have hs65 := hs6.blkSet 0 rfl 1 (.int .u64 p2)
            have HS6 : Hid (SepW w (w6.setCell ⟨w4.heap.size, 1, none⟩ (.int .u64 p2)) [obBlk w4.heap.size (.cells #[.int .u64 a2, .int .u64 p2, .slice none 0 0] 39), obVts (.slice ao out.length c) 39 vs out, obRd (.pointer (some ⟨b0, 0, none⟩)) D p1]) := Lib.hid (by simpa using hs65)
            obtain ⟨x1, z1⟩ := hs6.blk 0 rfl 1 _ rfl
            clear hs6 hs65 hp hw1
            go_wp2_with fail
            refine (HS6.out.rdBytes 2 rfl (most := 32768) (by decide)).mono ?_
            rintro e w7 ⟨bo, bc, rfl, hs7⟩
            obtain ⟨k, hk⟩ : ∃ k, rB (32768 : Nat) p1 = k := ⟨_, rfl⟩
            rw [hk] at hs7 ⊢
            have HK := Lib.hid hk
            obtain ⟨k1, k2⟩ := k
            simp only at hs7 ⊢
            have hs75 := hs7.blkSet 1 rfl 2 (.slice bo k2.length bc)
            have HS7 : Hid (SepW w (w7.setCell ⟨w4.heap.size, 2, none⟩ (.slice bo k2.length bc)) [obRow (.slice bo k2.length bc) 5 1 k2.length (u8s k2), obBlk w4.heap.size (.cells #[.int .u64 a2, .int .u64 p2, .slice bo k2.length bc] 39), obVts (.slice ao out.length c) 39 vs out, obRd (.pointer (some ⟨b0, 0, none⟩)) D k1]) := Lib.hid (by simpa using hs75)
            obtain ⟨x2, z2⟩ := hs7.blk 1 rfl 2 _ rfl
            clear hs7 hs75 hk x1 z1 HS6 HS4
            go_wp2_with fail
            refine (HS7.out.rdErr 3 rfl).mono ?_
            rintro e w8 ⟨rfl, rfl⟩
            by_cases hke : k1.e = 0
            · have hb2 : (k1.e != 0) = false := by simp [hke]
              have hq3 : getL m k1 (out ++ [⟨a2, p2, k2⟩]) = q := by
                rw [← HQ.out, getL_four (by rw [HA.out]; exact HE.out) (by rw [HA.out]; exact HNf.out) (by rw [HA.out]; simp only; rw [HP.out]; simp only; rw [HK.out]; exact hke), HA.out]
                simp only
                rw [HP.out]
                simp only
                rw [HK.out]
              have hlen2 : (out ++ [(⟨a2, p2, k2⟩ : Vt)]).length + k1.b.length ≤ xs.length := by
                have h1 := rU_less (r := r) (by rw [HA.out]; exact HE.out)
                have h2 := (rB_less (m := (32768 : Nat)) (r := p1) (by rw [HK.out]; exact hke)).1
                have h3 := rU_le a1
                rw [HA.out] at h1
                rw [HP.out] at h3
                rw [HK.out] at h2
                simp only at h1 h2 h3
                simp; omega
              have HQ3 := Lib.hid hq3
              have HL2 := Lib.hid hlen2
              have hs9 : SepW w _ _ := ⟨HS7.out.sep.front 2 rfl, HS7.out.below⟩
              have HS9 := Lib.hid hs9
              have HO9 := Lib.hid ((hs9.get 0 rfl : (obVts (.slice ao out.length c) 39 vs out).inv _).1)
              have HU9 : Hid (∀ u ∈ (#[.int .u64 a2, .int .u64 p2, .slice bo k2.length bc] : Array Value).toList, u.oneCell' = true) := Lib.hid (by intro u hu; simp at hu; rcases hu with rfl | rfl | rfl <;> rfl)
              have hk40 : out.length ≤ 1099511627776 := by omega
              have hu2 : U1 (m : Int) := by have := HU.out; unfold U1 at *; constructor <;> omega
              have HU2 := Lib.hid hu2
              obtain ⟨y0, _⟩ := HS7.out.blk 1 rfl 0 _ rfl
              obtain ⟨y1, _⟩ := HS7.out.blk 1 rfl 1 _ rfl
              obtain ⟨y2, _⟩ := HS7.out.blk 1 rfl 2 _ rfl
              clear hke hq3 hlen2 hs9 hu2 x2 z2
              generalize w7.setCell ⟨w4.heap.size, 2, none⟩ (.slice bo k2.length bc) = w8 at *
              have hwu := HW1.out
              go_wp2_with (first
                | (at_builtin; (refine wpList_appS rfl (.tmp 54) (.tmp 56) 33 rfl 0 39 i0 _ 3 40 Try.underlying33 hi hz0 hz1 hz2 rfl (by decide) (by decide) rfl rfl (by simp) rfl HO9.out HU9.out hk40 (Nat.zero_le _) ?_)
                   intro g7 cap7 w9 hown7 hg7 hor7
                   have HOwn7 := Lib.hid hown7
                   have HG7 := Lib.hid hg7
                   have HOr7 := Lib.hid hor7
                   clear hown7 hg7 hor7)
                | fail)
              obtain ⟨hsA, hkA⟩ := HS9.out.sep.vtApp (g := g7) (cap := cap7) (s := (⟨a2, p2, k2⟩ : Vt)) HG7.out HOr7.out HOwn7.out
              have HSA : Hid (SepW w w9 [obVts (.slice (some ⟨g7, 0, none⟩) (out ++ [(⟨a2, p2, k2⟩ : Vt)]).length cap7) 39 (vs ++ [.int .u64 a2, .int .u64 p2, .slice bo k2.length bc]) (out ++ [⟨a2, p2, k2⟩]), obRd (.pointer (some ⟨b0, 0, none⟩)) D k1]) := Lib.hid (by
                rw [List.length_append, List.length_singleton]
                exact (SepW.sub ⟨hsA, HS9.out.sep.belowAt HS9.out.below 0 rfl (hkA.mono (fun q _ hq => Or.inl hq))⟩ ((List.sublist_cons_self _ _).cons_cons _)))
              clear hsA hkA hwu
              go_roundw
              case rel => exact ⟨m, out ++ [⟨a2, p2, k2⟩], k1, _, _, _, by rw [HWm.out], by rw [List.length_append]; rfl, HU2.out, HSA.out, HQ3.out, HL2.out⟩
              case measure => simp [intOf, HWm.out]
            · have hb2 : (k1.e != 0) = true := by simp [hke]
              have hq3 : q = (k1.e, []) := by
                rw [← HQ.out, getL_three (by rw [HA.out]; exact HE.out) (by rw [HA.out]; exact HNf.out) (by rw [HA.out]; simp only; rw [HP.out]; simp only; rw [HK.out]; exact hke), HA.out]
                simp only
                rw [HP.out]
                simp only
                rw [HK.out]
              have HQ3 := Lib.hid hq3
              clear hq3 hke
              go_wp2_with fail
              refine bodyPost_ret (v := .tuple #[.slice none 0 0, .int .i64 k1.e]) (by simp [results, Try.results47, go_sem]) rfl ?_
              exact RetGet.bad HS7.out HQ3.out
          · have hpos : 0 < out.length := by have := (List.getElem?_eq_some_iff.1 hv).1; omega
            obtain ⟨_, _, e0, hl1, hl2, hvx⟩ := HS4.out.vtL 1 rfl
            cases e0
            obtain ⟨oa, _, rfl, c0, _⟩ := hvx _ _ hv
            obtain ⟨x0, _⟩ := HS4.out.blk 0 rfl 0 _ rfl
            have hpi : (0 : Int) < (out.length : Int) := by omega
            have hw1 : IntKind.i64.wrap ((out.length : Int) - 1) = (out.length : Int) - 1 := IntWalk.i64_in _ (by omega)
            have hw2 : 0 ≤ (out.length : Int) - 1 := by omega
            have hw3 : ((out.length : Int) - 1).toNat = out.length - 1 := by omega
            have hw4 : (out.length : Int) - 1 < (out.length : Int) := by omega
            have hgd : decide (a2 ≤ v.slot) = false := decide_eq_false hna
            clear hvx hv hna
            go_wp2_with fail
            go_quiet (fail)
            clear hpi hw1 hw2 hw3 hw4 hgd c0 x0 hl1 hl2 hpos
            generalize some oa = ao at *
            go_wp2_with fail
            refine ((HS4.out.drewN _).rdUint 2 rfl).mono ?_
            rintro e w6 ⟨rfl, hs6⟩
            have hw1 : IntKind.u64.wrap (((m + 1 : Nat) : Int) - 1) = (m : Int) := by
              rw [show ((m + 1 : Nat) : Int) - 1 = (m : Int) by omega]
              have := HU.out
              unfold U1 at this
              exact IntWalk.u64_in _ (by omega)
            have HW1 := Lib.hid hw1
            have HWm : Hid (IntKind.u64.wrap (m : Int) = (m : Int)) := Lib.hid (by rw [show ((m + 1 : Nat) : Int) - 1 = (m : Int) by omega] at hw1; exact hw1)
            obtain ⟨p, hp⟩ : ∃ p, rU a1 = p := ⟨_, rfl⟩
            rw [hp] at hs6 ⊢
            have HP := Lib.hid hp
            obtain ⟨p1, p2⟩ := p
            simp only at hs6 ⊢
            have hs65 := hs6.blkSet 0 rfl 1 (.int .u64 p2)
            have HS6 : Hid (SepW w (w6.setCell ⟨w4.heap.size, 1, none⟩ (.int .u64 p2)) [obBlk w4.heap.size (.cells #[.int .u64 a2, .int .u64 p2, .slice none 0 0] 39), obVts (.slice ao out.length c) 39 vs out, obRd (.pointer (some ⟨b0, 0, none⟩)) D p1]) := Lib.hid (by simpa using hs65)
            obtain ⟨x1, z1⟩ := hs6.blk 0 rfl 1 _ rfl
            clear hs6 hs65 hp hw1
            go_wp2_with fail
            refine (HS6.out.rdBytes 2 rfl (most := 32768) (by decide)).mono ?_
            rintro e w7 ⟨bo, bc, rfl, hs7⟩
            obtain ⟨k, hk⟩ : ∃ k, rB (32768 : Nat) p1 = k := ⟨_, rfl⟩
            rw [hk] at hs7 ⊢
            have HK := Lib.hid hk
            obtain ⟨k1, k2⟩ := k
            simp only at hs7 ⊢
            have hs75 := hs7.blkSet 1 rfl 2 (.slice bo k2.length bc)
            have HS7 : Hid (SepW w (w7.setCell ⟨w4.heap.size, 2, none⟩ (.slice bo k2.length bc)) [obRow (.slice bo k2.length bc) 5 1 k2.length (u8s k2), obBlk w4.heap.size (.cells #[.int .u64 a2, .int .u64 p2, .slice bo k2.length bc] 39), obVts (.slice ao out.length c) 39 vs out, obRd (.pointer (some ⟨b0, 0, none⟩)) D k1]) := Lib.hid (by simpa using hs75)
            obtain ⟨x2, z2⟩ := hs7.blk 1 rfl 2 _ rfl
            clear hs7 hs75 hk x1 z1 HS6 HS4
            go_wp2_with fail
            refine (HS7.out.rdErr 3 rfl).mono ?_
            rintro e w8 ⟨rfl, rfl⟩
            by_cases hke : k1.e = 0
            · have hb2 : (k1.e != 0) = false := by simp [hke]
              have hq3 : getL m k1 (out ++ [⟨a2, p2, k2⟩]) = q := by
                rw [← HQ.out, getL_four (by rw [HA.out]; exact HE.out) (by rw [HA.out]; exact HNf.out) (by rw [HA.out]; simp only; rw [HP.out]; simp only; rw [HK.out]; exact hke), HA.out]
                simp only
                rw [HP.out]
                simp only
                rw [HK.out]
              have hlen2 : (out ++ [(⟨a2, p2, k2⟩ : Vt)]).length + k1.b.length ≤ xs.length := by
                have h1 := rU_less (r := r) (by rw [HA.out]; exact HE.out)
                have h2 := (rB_less (m := (32768 : Nat)) (r := p1) (by rw [HK.out]; exact hke)).1
                have h3 := rU_le a1
                rw [HA.out] at h1
                rw [HP.out] at h3
                rw [HK.out] at h2
                simp only at h1 h2 h3
                simp; omega
              have HQ3 := Lib.hid hq3
              have HL2 := Lib.hid hlen2
              have hs9 : SepW w _ _ := ⟨HS7.out.sep.front 2 rfl, HS7.out.below⟩
              have HS9 := Lib.hid hs9
              have HO9 := Lib.hid ((hs9.get 0 rfl : (obVts (.slice ao out.length c) 39 vs out).inv _).1)
              have HU9 : Hid (∀ u ∈ (#[.int .u64 a2, .int .u64 p2, .slice bo k2.length bc] : Array Value).toList, u.oneCell' = true) := Lib.hid (by intro u hu; simp at hu; rcases hu with rfl | rfl | rfl <;> rfl)
              have hk40 : out.length ≤ 1099511627776 := by omega
              have hu2 : U1 (m : Int) := by have := HU.out; unfold U1 at *; constructor <;> omega
              have HU2 := Lib.hid hu2
              obtain ⟨y0, _⟩ := HS7.out.blk 1 rfl 0 _ rfl
              obtain ⟨y1, _⟩ := HS7.out.blk 1 rfl 1 _ rfl
              obtain ⟨y2, _⟩ := HS7.out.blk 1 rfl 2 _ rfl
              clear hke hq3 hlen2 hs9 hu2 x2 z2
              generalize w7.setCell ⟨w4.heap.size, 2, none⟩ (.slice bo k2.length bc) = w8 at *
              have hwu := HW1.out
              go_wp2_with (first
                | (at_builtin; (refine wpList_appS rfl (.tmp 54) (.tmp 56) 33 rfl 0 39 i0 _ 3 40 Try.underlying33 hi hz0 hz1 hz2 rfl (by decide) (by decide) rfl rfl (by simp) rfl HO9.out HU9.out hk40 (Nat.zero_le _) ?_)
                   intro g7 cap7 w9 hown7 hg7 hor7
                   have HOwn7 := Lib.hid hown7
                   have HG7 := Lib.hid hg7
                   have HOr7 := Lib.hid hor7
                   clear hown7 hg7 hor7)
                | fail)
              obtain ⟨hsA, hkA⟩ := HS9.out.sep.vtApp (g := g7) (cap := cap7) (s := (⟨a2, p2, k2⟩ : Vt)) HG7.out HOr7.out HOwn7.out
              have HSA : Hid (SepW w w9 [obVts (.slice (some ⟨g7, 0, none⟩) (out ++ [(⟨a2, p2, k2⟩ : Vt)]).length cap7) 39 (vs ++ [.int .u64 a2, .int .u64 p2, .slice bo k2.length bc]) (out ++ [⟨a2, p2, k2⟩]), obRd (.pointer (some ⟨b0, 0, none⟩)) D k1]) := Lib.hid (by
                rw [List.length_append, List.length_singleton]
                exact (SepW.sub ⟨hsA, HS9.out.sep.belowAt HS9.out.below 0 rfl (hkA.mono (fun q _ hq => Or.inl hq))⟩ ((List.sublist_cons_self _ _).cons_cons _)))
              clear hsA hkA hwu
              go_roundw
              case rel => exact ⟨m, out ++ [⟨a2, p2, k2⟩], k1, _, _, _, by rw [HWm.out], by rw [List.length_append]; rfl, HU2.out, HSA.out, HQ3.out, HL2.out⟩
              case measure => simp [intOf, HWm.out]
            · have hb2 : (k1.e != 0) = true := by simp [hke]
              have hq3 : q = (k1.e, []) := by
                rw [← HQ.out, getL_three (by rw [HA.out]; exact HE.out) (by rw [HA.out]; exact HNf.out) (by rw [HA.out]; simp only; rw [HP.out]; simp only; rw [HK.out]; exact hke), HA.out]
                simp only
                rw [HP.out]
                simp only
                rw [HK.out]
              have HQ3 := Lib.hid hq3
              clear hq3 hke
              go_wp2_with fail
              refine bodyPost_ret (v := .tuple #[.slice none 0 0, .int .i64 k1.e]) (by simp [results, Try.results47, go_sem]) rfl ?_
              exact RetGet.bad HS7.out HQ3.out
      · have hb : (a1.e != 0) = true := by simp [he]
        have hq3 : q = (a1.e, []) := by rw [← HQ.out, getL_one (by rw [HA.out]; exact he), HA.out]
        have HQ3 := Lib.hid hq3
        clear hq3 he
        go_wp2_with fail
        refine bodyPost_ret (v := .tuple #[.slice none 0 0, .int .i64 a1.e]) (by simp [results, Try.results47, go_sem]) rfl ?_
        exact RetGet.bad HS4.out HQ3.out
end Go.Proofs.Ytjdjfhioobhcjaa
