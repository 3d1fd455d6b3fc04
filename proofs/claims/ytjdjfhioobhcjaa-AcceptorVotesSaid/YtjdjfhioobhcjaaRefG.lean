/-
  The document's votes of bytes: Get.
-/
import Derived.Test.YtjdjfhioobhcjaaRefS
import Derived.Test.YtjdjfhioobhcjaaAccV
import Derived.Test.YtjdjfhioobhcjaaGetX
namespace Go.Proofs.Ytjdjfhioobhcjaa
open Go.ChangeShapes Go.WideShapes Go.ChangeAt Go.RowKit Go.Maps
set_option maxRecDepth 100000

/-- What comes out: votes with texts. -/
def RetRG (q : Int × List Vt) (w : World) (e : Ending) (w' : World) : Prop :=
  ∃ ao c, e = .returned (.tuple #[.slice ao q.2.length c, .int .i64 q.1]) ∧ SepW w w' [obRow (.slice ao q.2.length c) 56 3 q.2.length (rfC q.2)]
theorem RetRG.bad {w w' : World} {os : List Ob} {q : Int × List Vt} {x : Int} (h : SepW w w' os) (hq : q = (x, [])) : RetRG q w (.returned (.tuple #[.slice none 0 0, .int .i64 x])) w' := by
  subst hq
  exact ⟨none, 0, rfl, (SepW.nil h.below).newRow (World.ownsRow_nil _ _ _ _) (Below.refl _ _)⟩
set_option maxHeartbeats 10000000 in
theorem rget_any {xs : List Int} (h8 : U8 xs) (hl : xs.length ≤ 1000000) (w : World) :
    Calls Try.prog 48 #[.string (strB xs)] w (RetRG (getV xs) w) := by
  obtain ⟨i0, hi, hz0, hz1, hz2⟩ := info_parts Try.rvInfo
  obtain ⟨q, hq⟩ : ∃ q, getV xs = q := ⟨_, rfl⟩
  rw [hq]
  have HQ1 : Hid (getL (rU ⟨xs, 0⟩).2.toNat (rU ⟨xs, 0⟩).1 [] = q) := Lib.hid hq
  have hR0 := Lib.hid (sread_any (r := ⟨xs, 0⟩) h8 (by show xs.length ≤ 1000000000; omega) w)
  obtain ⟨hn0, hn1⟩ := rU_bd (r := ⟨xs, 0⟩) h8 (by show xs.length ≤ 1000000000; omega)
  have hlb : (rU ⟨xs, 0⟩).1.b.length ≤ xs.length := rU_le ⟨xs, 0⟩
  clear hq
  go_enter Try.func48, Try.ntmps48
  go_wp2_with fail
  refine hR0.out.mono ?_
  rintro e w1 ⟨rfl, hb1⟩
  clear hR0
  have hz0 := rU_zero (r := ⟨xs, 0⟩)
  generalize (rU ⟨xs, 0⟩).2 = n0 at *
  obtain ⟨⟨rb, re⟩, hr0⟩ : ∃ r0, (rU ⟨xs, 0⟩).1 = r0 := ⟨_, rfl⟩
  have h8r : U8 rb := by
    have := (rU_b8 (r := ⟨xs, 0⟩) h8 (by show xs.length ≤ 1000000000; omega)).1
    rw [hr0] at this; exact this
  rw [hr0] at HQ1 hlb hz0 ⊢
  unfold rR
  simp only at hlb hz0 ⊢
  obtain ⟨n, rfl⟩ := Int.eq_ofNat_of_zero_le hn0
  rw [Int.toNat_natCast] at HQ1
  have HU0 : Hid (U1 (n : Int)) := Lib.hid ⟨hn0, hn1⟩
  have hs1 := ((SepW.nil (Below.refl w.heap.size w)).step hb1).newBlk #[.string (strB rb), .int .i64 re] 136
  have HS1 : Hid (SepW w (w1.alloc (.cells #[.string (strB rb), .int .i64 re] 136)) [obRow (.slice none 0 0) 56 3 0 (rfC []), obBlk w1.heap.size (.cells #[.string (strB rb), .int .i64 re] 136)]) := Lib.hid (hs1.newRow (World.ownsRow_nil _ _ _ _) (Below.refl _ _))
  have HI0 : Hid ((re = 0 ∧ getL n ⟨rb, re⟩ [] = q) ∨ (re ≠ 0 ∧ q = (re, []))) := Lib.hid (by
    by_cases he : re = 0
    · exact Or.inl ⟨he, HQ1.out⟩
    · have := hz0 he
      have h0 : n = 0 := by omega
      subst h0
      refine Or.inr ⟨he, ?_⟩
      rw [← HQ1.out]
      show (if rEnd ⟨rb, re⟩ ≠ 0 then (rEnd ⟨rb, re⟩, []) else _) = _
      have h1 : rEnd ⟨rb, re⟩ = re := by unfold rEnd; rw [if_pos he]
      rw [h1, if_pos he])
  clear hz0 hs1 hb1 hn0 hn1 h8 hr0 HQ1
  go_wp2_with fail
  generalize w1.heap.size = RB at *
  go_loopw [5, 6] (fun nv ov wr => ∃ (m : Nat) (out : List Vt) (rb : List Int) (re : Int) (ao : Option Addr) (c : Nat), nv = .int .u64 m ∧ ov = .slice ao out.length c ∧ U1 (m : Int) ∧ U8 rb ∧
      SepW w wr [obRow (.slice ao out.length c) 56 3 out.length (rfC out), obBlk RB (.cells #[.string (strB rb), .int .i64 re] 136)] ∧
      ((re = 0 ∧ getL m ⟨rb, re⟩ out = q ∧ out.length + rb.length ≤ xs.length) ∨ (re ≠ 0 ∧ q = (re, []) ∧ out.length ≤ xs.length + 1 ∧ rb.length ≤ xs.length))) (fun nv _ _ => (intOf nv).toNat)
  case atStart => exact ⟨n, [], rb, re, none, 0, rfl, rfl, HU0.out, h8r, HS1.out, by
    rcases HI0.out with ⟨h1, h2⟩ | ⟨h1, h2⟩
    · exact Or.inl ⟨h1, h2, by simpa using hlb⟩
    · exact Or.inr ⟨h1, h2, by simp, hlb⟩⟩
  case round =>
    clear HS1 HI0 HU0 h8r hlb
    obtain ⟨m, out, rb, re, ao, c, rfl, rfl, hu, h8r, hsep, hinv⟩ := hrel
    have HSk := Lib.hid hsep
    have HU := Lib.hid hu
    have H8 := Lib.hid h8r
    obtain ⟨y0, z0⟩ := hsep.blk 1 rfl 0 _ rfl
    obtain ⟨y1, z1⟩ := hsep.blk 1 rfl 1 _ rfl
    clear hsep hu h8r
    have HEn := Lib.hid (send_any ⟨rb, re⟩ wr)
    unfold rR at HEn
    simp only at HEn
    rcases hinv with ⟨he, hq, hlen⟩ | ⟨he, hq, hlen, hlb⟩
    · have hb : (re == 0) = true := by rw [beq_iff_eq]; exact he
      have HQ := Lib.hid hq
      have HE := Lib.hid he
      clear hq he
      cases m with
      | zero =>
        have hd : decide ((0 : Int) < ((0 : Nat) : Int)) = false := by simp
        have hq2 : q = if rEnd ⟨rb, re⟩ ≠ 0 then (rEnd ⟨rb, re⟩, []) else (0, out) := by rw [← HQ.out]; rfl
        have HQ2 := Lib.hid hq2
        clear hq2
        go_wp2_with fail
        refine HEn.out.mono ?_
        rintro e w4 ⟨rfl, hb4⟩
        have HS4 := Lib.hid (HSk.out.step hb4)
        generalize rEnd ⟨rb, re⟩ = en at *
        clear hb4 HEn HSk
        by_cases hen : en = 0
        · have hb2 : (en != 0) = false := by simp [hen]
          have hq3 := HQ2.out
          rw [if_neg (by simp [hen])] at hq3
          have HQ3 := Lib.hid hq3
          clear hq3 hen
          go_wp2_with fail
          refine bodyPost_ret (v := .tuple #[.slice ao out.length c, .int .i64 0]) (by simp [results, Try.results48, go_sem]) rfl ?_
          rw [HQ3.out]
          exact ⟨ao, c, rfl, HS4.out.sub (List.sublist_append_left [_] _)⟩
        · have hb2 : (en != 0) = true := by simp [hen]
          have hq3 := HQ2.out
          rw [if_pos hen] at hq3
          have HQ3 := Lib.hid hq3
          clear hq3 hen
          go_wp2_with fail
          refine bodyPost_ret (v := .tuple #[.slice none 0 0, .int .i64 en]) (by simp [results, Try.results48, go_sem]) rfl ?_
          exact RetRG.bad HS4.out HQ3.out
      | succ m =>
        clear HEn
        have hd : decide ((0 : Int) < ((m + 1 : Nat) : Int)) = true := decide_eq_true (by omega)
        have hd2 : (0 : Int) < ((m + 1 : Nat) : Int) := by omega
        have hs3 := HSk.out.newBlk #[.int .u64 0, .int .u64 0, .string ⟨#[]⟩] 56
        obtain ⟨y2, _⟩ := hs3.blk 2 rfl 0 _ rfl
        obtain ⟨y3, _⟩ := hs3.blk 2 rfl 1 _ rfl
        have HS3 := Lib.hid hs3
        have HR1 := fun w => Lib.hid (sread_any (r := ⟨rb, re⟩) H8.out (by show rb.length ≤ 1000000000; omega) w)
        obtain ⟨⟨⟨a1b, a1e⟩, a2⟩, ha⟩ : ∃ a, rU ⟨rb, re⟩ = a := ⟨_, rfl⟩
        have h81 := (rU_b8 (r := ⟨rb, re⟩) H8.out (by show rb.length ≤ 1000000000; omega)).1
        have hlb1 := rU_le ⟨rb, re⟩
        rw [ha] at HR1 h81 hlb1
        unfold RetRU rR at HR1
        simp only at HR1 h81 hlb1
        have HA := Lib.hid ha
        clear ha hs3 HSk
        go_wp2_with fail
        refine (HR1 _).out.mono ?_
        rintro e w4 ⟨rfl, hb4⟩
        have hs4 := HS3.out.step hb4
        obtain ⟨x0, z0⟩ := hs4.blk 2 rfl 0 _ rfl
        obtain ⟨x1, z1⟩ := hs4.blk 2 rfl 1 _ rfl
        have hs45 := (hs4.blkSet 2 rfl 0 (.string (strB a1b))).blkSet 2 rfl 1 (.int .i64 a1e)
        obtain ⟨x2, z2⟩ := hs45.blk 0 rfl 0 _ rfl
        have HS5 : Hid (SepW w _ [obBlk wr.heap.size (.cells #[.int .u64 a2, .int .u64 0, .string ⟨#[]⟩] 56), obRow (.slice ao out.length c) 56 3 out.length (rfC out), obBlk RB (.cells #[.string (strB a1b), .int .i64 a1e] 136)]) := Lib.hid (by simpa using hs45.blkSet 0 rfl 0 (.int .u64 a2))
        obtain ⟨v0, _⟩ := HS5.out.blk 2 rfl 0 _ rfl
        obtain ⟨v1, _⟩ := HS5.out.blk 2 rfl 1 _ rfl
        obtain ⟨⟨⟨p1b, p1e⟩, p2⟩, hp⟩ : ∃ p, rU ⟨a1b, a1e⟩ = p := ⟨_, rfl⟩
        have HR2 := fun w => Lib.hid (sread_any (r := ⟨a1b, a1e⟩) h81 (by show a1b.length ≤ 1000000000; omega) w)
        have h82 := (rU_b8 (r := ⟨a1b, a1e⟩) h81 (by show a1b.length ≤ 1000000000; omega)).1
        have hlb2 := rU_le ⟨a1b, a1e⟩
        rw [hp] at HR2 h82 hlb2
        unfold RetRU rR at HR2
        simp only at HR2 h82 hlb2
        obtain ⟨⟨⟨k1b, k1e⟩, k2⟩, hk⟩ : ∃ k, rB (32768 : Nat) ⟨p1b, p1e⟩ = k := ⟨_, rfl⟩
        have HB3 := fun w => Lib.hid (sreadB_any (r := ⟨p1b, p1e⟩) h82 (by show p1b.length ≤ 1000000000; omega) (most := 32768) (by decide) w)
        have h83 := rB_b8 (m := (32768 : Nat)) (r := ⟨p1b, p1e⟩) h82 (by show p1b.length ≤ 1000000000; omega)
        rw [hk] at HB3 h83
        unfold RetRR rR at HB3
        simp only at HB3 h83
        have H83 := Lib.hid h83.1
        have hw1 : IntKind.u64.wrap (((m + 1 : Nat) : Int) - 1) = (m : Int) := by
          rw [show ((m + 1 : Nat) : Int) - 1 = (m : Int) by omega]
          have := HU.out
          unfold U1 at this
          exact IntWalk.u64_in _ (by omega)
        have HW1 := Lib.hid hw1
        have HWm : Hid (IntKind.u64.wrap (m : Int) = (m : Int)) := Lib.hid (by rw [show ((m + 1 : Nat) : Int) - 1 = (m : Int) by omega] at hw1; exact hw1)
        have HU2 : Hid (U1 (m : Int)) := Lib.hid (by have := HU.out; unfold U1 at *; constructor <;> omega)
        have HInvC : Hid (((a1e = 0 ∧ notAbove out a2 = false) ∨ a1e ≠ 0) → (k1e = 0 ∧ getL m ⟨k1b, k1e⟩ (out ++ [⟨a2, p2, k2⟩]) = q ∧ (out ++ [(⟨a2, p2, k2⟩ : Vt)]).length + k1b.length ≤ xs.length) ∨ (k1e ≠ 0 ∧ q = (k1e, []) ∧ (out ++ [(⟨a2, p2, k2⟩ : Vt)]).length ≤ xs.length + 1 ∧ k1b.length ≤ xs.length)) := Lib.hid (by
          intro hbr
          have hl3 := h83.2
          rcases hbr with ⟨h0, hna⟩ | h0
          · by_cases hke : k1e = 0
            · refine Or.inl ⟨hke, ?_, ?_⟩
              · rw [← HQ.out, getL_four (by rw [HA.out]; exact h0) (by rw [HA.out]; exact hna) (by rw [HA.out]; simp only; rw [hp]; simp only; rw [hk]; exact hke), HA.out]
                simp only
                rw [hp]
                simp only
                rw [hk]
              · have h1 := rU_less (r := ⟨rb, re⟩) (by rw [HA.out]; exact h0)
                rw [HA.out] at h1
                simp only at h1
                simp; omega
            · refine Or.inr ⟨hke, ?_, by simp; omega, by omega⟩
              rw [← HQ.out, getL_three (by rw [HA.out]; exact h0) (by rw [HA.out]; exact hna) (by rw [HA.out]; simp only; rw [hp]; simp only; rw [hk]; exact hke), HA.out]
              simp only
              rw [hp]
              simp only
              rw [hk]
          · have e1 := rU_err (r := ⟨a1b, a1e⟩) h0
            rw [hp] at e1
            have e1b : (⟨p1b, p1e⟩ : RS) = ⟨a1b, a1e⟩ := congrArg Prod.fst e1
            rw [e1b, rB_err h0] at hk
            have e2b : (⟨a1b, a1e⟩ : RS) = ⟨k1b, k1e⟩ := congrArg Prod.fst hk
            have e3 : a1e = k1e := congrArg RS.e e2b
            refine Or.inr ⟨by rw [← e3]; exact h0, ?_, by simp; omega, by omega⟩
            rw [← HQ.out, getL_one (by rw [HA.out]; exact h0), HA.out, e3])
        clear hs4 hs45 hb4 HR1 HS3 y0 y1 y2 y3 hp hk h81 h82 h83 hw1
        by_cases he1 : a1e = 0
        · have hb1 : (a1e == 0) = true := by simp [he1]
          have HE1 := Lib.hid he1
          clear he1
          by_cases hna : notAbove out a2 = true
          · obtain ⟨v, hv⟩ : ∃ v, out[out.length - 1]? = some v := by
              cases hg : out[out.length - 1]? with
              | none => rw [notAbove, List.getLast?_eq_getElem?, hg] at hna; cases hna
              | some v => exact ⟨v, rfl⟩
            have hpos : 0 < out.length := by have := (List.getElem?_eq_some_iff.1 hv).1; omega
            have hq3 : q = (11, []) := by
              rw [← HQ.out]
              exact getL_two (by rw [HA.out]; exact HE1.out) (by rw [HA.out]; exact hna)
            rw [notAbove_last hv, decide_eq_true_eq] at hna
            have HQ3 := Lib.hid hq3
            clear hq3
            obtain ⟨_, _, e0, hl1, hl2, hvx⟩ := RfL.of_own (HS5.out.get 1 rfl : World.ownsRow _ 0 56 3 (.slice ao out.length c) out.length (rfC out))
            cases e0
            obtain ⟨oa, rfl, c0, _⟩ := hvx _ _ hv
            have hpi : (0 : Int) < (out.length : Int) := by omega
            have hw2 : 0 ≤ (out.length : Int) - 1 := by omega
            have hw3 : ((out.length : Int) - 1).toNat = out.length - 1 := by omega
            have hw4 : (out.length : Int) - 1 < (out.length : Int) := by omega
            have hgd : decide (a2 ≤ v.slot) = true := decide_eq_true hna
            clear hvx hv hna
            go_wp2_with fail
            refine bodyPost_ret (v := .tuple #[.slice none 0 0, .int .i64 11]) (by simp [results, Try.results48, go_sem]) rfl ?_
            exact RetRG.bad HS5.out HQ3.out
          · have hnf : notAbove out a2 = false := by simpa using hna
            have HInv := Lib.hid (HInvC.out (Or.inl ⟨HE1.out, hnf⟩))
            have hor : out.length = 0 ∨ ∃ v, out[out.length - 1]? = some v ∧ ¬ a2 ≤ v.slot := by
              by_cases h0 : out.length = 0
              · exact Or.inl h0
              · have hv : out[out.length - 1]? = some out[out.length - 1] := List.getElem?_eq_getElem (by omega)
                exact Or.inr ⟨_, hv, by rw [notAbove_last hv] at hnf; simpa using hnf⟩
            clear hna hnf HInvC
            rcases hor with h0 | ⟨v, hv, hna⟩
            · have hpi : decide ((0 : Int) < (out.length : Int)) = false := decide_eq_false (by omega)
              have hpn : decide (0 < out.length) = false := decide_eq_false (by omega)
              clear h0
              go_wp2_with fail
              clear hpi hpn
              refine (HR2 _).out.mono ?_
              rintro e w6 ⟨rfl, hb6⟩
              have hs6 := HS5.out.step hb6
              obtain ⟨x0, z0⟩ := hs6.blk 2 rfl 0 _ rfl
              obtain ⟨x1, z1⟩ := hs6.blk 2 rfl 1 _ rfl
              have hs65 := (hs6.blkSet 2 rfl 0 (.string (strB p1b))).blkSet 2 rfl 1 (.int .i64 p1e)
              obtain ⟨x2, z2⟩ := hs65.blk 0 rfl 1 _ rfl
              have HS7 : Hid (SepW w _ [obBlk wr.heap.size (.cells #[.int .u64 a2, .int .u64 p2, .string ⟨#[]⟩] 56), obRow (.slice ao out.length c) 56 3 out.length (rfC out), obBlk RB (.cells #[.string (strB p1b), .int .i64 p1e] 136)]) := Lib.hid (by simpa using hs65.blkSet 0 rfl 1 (.int .u64 p2))
              obtain ⟨v0, _⟩ := HS7.out.blk 2 rfl 0 _ rfl
              obtain ⟨v1, _⟩ := HS7.out.blk 2 rfl 1 _ rfl
              clear hs6 hs65 hb6 HR2 HS5
              go_wp2_with fail
              refine (HB3 _).out.mono ?_
              rintro e w8 ⟨rfl, hb8⟩
              have hs8 := HS7.out.step hb8
              obtain ⟨x0, z0⟩ := hs8.blk 2 rfl 0 _ rfl
              obtain ⟨x1, z1⟩ := hs8.blk 2 rfl 1 _ rfl
              have hs85 := (hs8.blkSet 2 rfl 0 (.string (strB k1b))).blkSet 2 rfl 1 (.int .i64 k1e)
              obtain ⟨x2, z2⟩ := hs85.blk 0 rfl 2 _ rfl
              have HS9 : Hid (SepW w _ [obBlk wr.heap.size (.cells #[.int .u64 a2, .int .u64 p2, .string (strB k2)] 56), obRow (.slice ao out.length c) 56 3 out.length (rfC out), obBlk RB (.cells #[.string (strB k1b), .int .i64 k1e] 136)]) := Lib.hid (by simpa using hs85.blkSet 0 rfl 2 (.string (strB k2)))
              obtain ⟨v0, _⟩ := HS9.out.blk 0 rfl 0 _ rfl
              obtain ⟨v1, _⟩ := HS9.out.blk 0 rfl 1 _ rfl
              obtain ⟨v2, _⟩ := HS9.out.blk 0 rfl 2 _ rfl
              have HO9 := Lib.hid (HS9.out.get 1 rfl : World.ownsRow _ 0 56 3 (.slice ao out.length c) out.length (rfC out))
              have HU9 : Hid (∀ u ∈ (#[.int .u64 a2, .int .u64 p2, .string (strB k2)] : Array Value).toList, u.oneCell' = true) := Lib.hid (by intro u hu; simp at hu; rcases hu with rfl | rfl | rfl <;> rfl)
              have hk40 : out.length ≤ 1099511627776 := by omega
              have hwu := HW1.out
              clear hs8 hs85 hb8 HB3 HS7
              go_wp2_with (first
                | (at_builtin; (refine wpList_appS rfl (.tmp 65) (.tmp 67) 46 rfl 0 56 i0 _ 3 32 Try.underlying46 hi hz0 hz1 hz2 rfl (by decide) (by decide) rfl rfl (by simp) rfl HO9.out HU9.out hk40 (Nat.zero_le _) ?_)
                   intro g7 cap7 w9 hown7 hg7 hor7
                   have HOwn7 := Lib.hid hown7
                   have HG7 := Lib.hid hg7
                   have HOr7 := Lib.hid hor7
                   clear hown7 hg7 hor7)
                | fail)
              have HSA : Hid (SepW w w9 [obRow (.slice (some ⟨g7, 0, none⟩) (out ++ [(⟨a2, p2, k2⟩ : Vt)]).length cap7) 56 3 (out ++ [(⟨a2, p2, k2⟩ : Vt)]).length (rfC (out ++ [(⟨a2, p2, k2⟩ : Vt)])), obBlk RB (.cells #[.string (strB k1b), .int .i64 k1e] 136)]) := Lib.hid (by
                rw [rfC_snoc, List.length_append, List.length_singleton]
                exact (HS9.out.rowApp 1 rfl HG7.out HOr7.out HOwn7.out).sub (List.sublist_cons_self _ _))
              clear hwu HS9 HO9
              go_roundw
              case rel => exact ⟨m, out ++ [⟨a2, p2, k2⟩], k1b, k1e, _, _, by rw [HWm.out], by rw [List.length_append]; rfl, HU2.out, H83.out, HSA.out, HInv.out⟩
              case measure => simp [intOf, HWm.out]
            · have hpos : 0 < out.length := by have := (List.getElem?_eq_some_iff.1 hv).1; omega
              obtain ⟨_, _, e0, hl1, hl2, hvx⟩ := RfL.of_own (HS5.out.get 1 rfl : World.ownsRow _ 0 56 3 (.slice ao out.length c) out.length (rfC out))
              cases e0
              obtain ⟨oa, rfl, c0, _⟩ := hvx _ _ hv
              have hpi : (0 : Int) < (out.length : Int) := by omega
              have hw2 : 0 ≤ (out.length : Int) - 1 := by omega
              have hw3 : ((out.length : Int) - 1).toNat = out.length - 1 := by omega
              have hw4 : (out.length : Int) - 1 < (out.length : Int) := by omega
              have hgd : decide (a2 ≤ v.slot) = false := decide_eq_false hna
              clear hvx hv hna
              go_wp2_with fail
              clear hpi hw2 hw3 hw4 hgd c0 hl1 hl2 hpos
              generalize some oa = ao at *
              refine (HR2 _).out.mono ?_
              rintro e w6 ⟨rfl, hb6⟩
              have hs6 := HS5.out.step hb6
              obtain ⟨x0, z0⟩ := hs6.blk 2 rfl 0 _ rfl
              obtain ⟨x1, z1⟩ := hs6.blk 2 rfl 1 _ rfl
              have hs65 := (hs6.blkSet 2 rfl 0 (.string (strB p1b))).blkSet 2 rfl 1 (.int .i64 p1e)
              obtain ⟨x2, z2⟩ := hs65.blk 0 rfl 1 _ rfl
              have HS7 : Hid (SepW w _ [obBlk wr.heap.size (.cells #[.int .u64 a2, .int .u64 p2, .string ⟨#[]⟩] 56), obRow (.slice ao out.length c) 56 3 out.length (rfC out), obBlk RB (.cells #[.string (strB p1b), .int .i64 p1e] 136)]) := Lib.hid (by simpa using hs65.blkSet 0 rfl 1 (.int .u64 p2))
              obtain ⟨v0, _⟩ := HS7.out.blk 2 rfl 0 _ rfl
              obtain ⟨v1, _⟩ := HS7.out.blk 2 rfl 1 _ rfl
              clear hs6 hs65 hb6 HR2 HS5
              go_wp2_with fail
              refine (HB3 _).out.mono ?_
              rintro e w8 ⟨rfl, hb8⟩
              have hs8 := HS7.out.step hb8
              obtain ⟨x0, z0⟩ := hs8.blk 2 rfl 0 _ rfl
              obtain ⟨x1, z1⟩ := hs8.blk 2 rfl 1 _ rfl
              have hs85 := (hs8.blkSet 2 rfl 0 (.string (strB k1b))).blkSet 2 rfl 1 (.int .i64 k1e)
              obtain ⟨x2, z2⟩ := hs85.blk 0 rfl 2 _ rfl
              have HS9 : Hid (SepW w _ [obBlk wr.heap.size (.cells #[.int .u64 a2, .int .u64 p2, .string (strB k2)] 56), obRow (.slice ao out.length c) 56 3 out.length (rfC out), obBlk RB (.cells #[.string (strB k1b), .int .i64 k1e] 136)]) := Lib.hid (by simpa using hs85.blkSet 0 rfl 2 (.string (strB k2)))
              obtain ⟨v0, _⟩ := HS9.out.blk 0 rfl 0 _ rfl
              obtain ⟨v1, _⟩ := HS9.out.blk 0 rfl 1 _ rfl
              obtain ⟨v2, _⟩ := HS9.out.blk 0 rfl 2 _ rfl
              have HO9 := Lib.hid (HS9.out.get 1 rfl : World.ownsRow _ 0 56 3 (.slice ao out.length c) out.length (rfC out))
              have HU9 : Hid (∀ u ∈ (#[.int .u64 a2, .int .u64 p2, .string (strB k2)] : Array Value).toList, u.oneCell' = true) := Lib.hid (by intro u hu; simp at hu; rcases hu with rfl | rfl | rfl <;> rfl)
              have hk40 : out.length ≤ 1099511627776 := by omega
              have hwu := HW1.out
              clear hs8 hs85 hb8 HB3 HS7
              go_wp2_with (first
                | (at_builtin; (refine wpList_appS rfl (.tmp 65) (.tmp 67) 46 rfl 0 56 i0 _ 3 32 Try.underlying46 hi hz0 hz1 hz2 rfl (by decide) (by decide) rfl rfl (by simp) rfl HO9.out HU9.out hk40 (Nat.zero_le _) ?_)
                   intro g7 cap7 w9 hown7 hg7 hor7
                   have HOwn7 := Lib.hid hown7
                   have HG7 := Lib.hid hg7
                   have HOr7 := Lib.hid hor7
                   clear hown7 hg7 hor7)
                | fail)
              have HSA : Hid (SepW w w9 [obRow (.slice (some ⟨g7, 0, none⟩) (out ++ [(⟨a2, p2, k2⟩ : Vt)]).length cap7) 56 3 (out ++ [(⟨a2, p2, k2⟩ : Vt)]).length (rfC (out ++ [(⟨a2, p2, k2⟩ : Vt)])), obBlk RB (.cells #[.string (strB k1b), .int .i64 k1e] 136)]) := Lib.hid (by
                rw [rfC_snoc, List.length_append, List.length_singleton]
                exact (HS9.out.rowApp 1 rfl HG7.out HOr7.out HOwn7.out).sub (List.sublist_cons_self _ _))
              clear hwu HS9 HO9
              go_roundw
              case rel => exact ⟨m, out ++ [⟨a2, p2, k2⟩], k1b, k1e, _, _, by rw [HWm.out], by rw [List.length_append]; rfl, HU2.out, H83.out, HSA.out, HInv.out⟩
              case measure => simp [intOf, HWm.out]
        · have hb1 : (a1e == 0) = false := by simp [he1]
          have HInv := Lib.hid (HInvC.out (Or.inr he1))
          clear he1 HInvC
          go_wp2_with fail
          refine (HR2 _).out.mono ?_
          rintro e w6 ⟨rfl, hb6⟩
          have hs6 := HS5.out.step hb6
          obtain ⟨x0, z0⟩ := hs6.blk 2 rfl 0 _ rfl
          obtain ⟨x1, z1⟩ := hs6.blk 2 rfl 1 _ rfl
          have hs65 := (hs6.blkSet 2 rfl 0 (.string (strB p1b))).blkSet 2 rfl 1 (.int .i64 p1e)
          obtain ⟨x2, z2⟩ := hs65.blk 0 rfl 1 _ rfl
          have HS7 : Hid (SepW w _ [obBlk wr.heap.size (.cells #[.int .u64 a2, .int .u64 p2, .string ⟨#[]⟩] 56), obRow (.slice ao out.length c) 56 3 out.length (rfC out), obBlk RB (.cells #[.string (strB p1b), .int .i64 p1e] 136)]) := Lib.hid (by simpa using hs65.blkSet 0 rfl 1 (.int .u64 p2))
          obtain ⟨v0, _⟩ := HS7.out.blk 2 rfl 0 _ rfl
          obtain ⟨v1, _⟩ := HS7.out.blk 2 rfl 1 _ rfl
          clear hs6 hs65 hb6 HR2 HS5
          go_wp2_with fail
          refine (HB3 _).out.mono ?_
          rintro e w8 ⟨rfl, hb8⟩
          have hs8 := HS7.out.step hb8
          obtain ⟨x0, z0⟩ := hs8.blk 2 rfl 0 _ rfl
          obtain ⟨x1, z1⟩ := hs8.blk 2 rfl 1 _ rfl
          have hs85 := (hs8.blkSet 2 rfl 0 (.string (strB k1b))).blkSet 2 rfl 1 (.int .i64 k1e)
          obtain ⟨x2, z2⟩ := hs85.blk 0 rfl 2 _ rfl
          have HS9 : Hid (SepW w _ [obBlk wr.heap.size (.cells #[.int .u64 a2, .int .u64 p2, .string (strB k2)] 56), obRow (.slice ao out.length c) 56 3 out.length (rfC out), obBlk RB (.cells #[.string (strB k1b), .int .i64 k1e] 136)]) := Lib.hid (by simpa using hs85.blkSet 0 rfl 2 (.string (strB k2)))
          obtain ⟨v0, _⟩ := HS9.out.blk 0 rfl 0 _ rfl
          obtain ⟨v1, _⟩ := HS9.out.blk 0 rfl 1 _ rfl
          obtain ⟨v2, _⟩ := HS9.out.blk 0 rfl 2 _ rfl
          have HO9 := Lib.hid (HS9.out.get 1 rfl : World.ownsRow _ 0 56 3 (.slice ao out.length c) out.length (rfC out))
          have HU9 : Hid (∀ u ∈ (#[.int .u64 a2, .int .u64 p2, .string (strB k2)] : Array Value).toList, u.oneCell' = true) := Lib.hid (by intro u hu; simp at hu; rcases hu with rfl | rfl | rfl <;> rfl)
          have hk40 : out.length ≤ 1099511627776 := by omega
          have hwu := HW1.out
          clear hs8 hs85 hb8 HB3 HS7
          go_wp2_with (first
            | (at_builtin; (refine wpList_appS rfl (.tmp 65) (.tmp 67) 46 rfl 0 56 i0 _ 3 32 Try.underlying46 hi hz0 hz1 hz2 rfl (by decide) (by decide) rfl rfl (by simp) rfl HO9.out HU9.out hk40 (Nat.zero_le _) ?_)
               intro g7 cap7 w9 hown7 hg7 hor7
               have HOwn7 := Lib.hid hown7
               have HG7 := Lib.hid hg7
               have HOr7 := Lib.hid hor7
               clear hown7 hg7 hor7)
            | fail)
          have HSA : Hid (SepW w w9 [obRow (.slice (some ⟨g7, 0, none⟩) (out ++ [(⟨a2, p2, k2⟩ : Vt)]).length cap7) 56 3 (out ++ [(⟨a2, p2, k2⟩ : Vt)]).length (rfC (out ++ [(⟨a2, p2, k2⟩ : Vt)])), obBlk RB (.cells #[.string (strB k1b), .int .i64 k1e] 136)]) := Lib.hid (by
            rw [rfC_snoc, List.length_append, List.length_singleton]
            exact (HS9.out.rowApp 1 rfl HG7.out HOr7.out HOwn7.out).sub (List.sublist_cons_self _ _))
          clear hwu HS9 HO9
          go_roundw
          case rel => exact ⟨m, out ++ [⟨a2, p2, k2⟩], k1b, k1e, _, _, by rw [HWm.out], by rw [List.length_append]; rfl, HU2.out, H83.out, HSA.out, HInv.out⟩
          case measure => simp [intOf, HWm.out]
    · have hb : (re == 0) = false := by rw [beq_eq_false_iff_ne]; exact he
      have hr : rEnd ⟨rb, re⟩ = re := by unfold rEnd; rw [if_pos he]
      rw [hr] at HEn
      have hb2 : (re != 0) = true := by simp [he]
      have HQ := Lib.hid hq
      clear hq he hr
      cases m with
      | zero =>
        have hd : decide ((0 : Int) < ((0 : Nat) : Int)) = false := by simp
        go_wp2_with fail
        refine HEn.out.mono ?_
        rintro e w4 ⟨rfl, hb4⟩
        go_wp2_with fail
        refine bodyPost_ret (v := .tuple #[.slice none 0 0, .int .i64 re]) (by simp [results, Try.results48, go_sem]) rfl ?_
        exact RetRG.bad (HSk.out.step hb4) HQ.out
      | succ m =>
        have hd : decide ((0 : Int) < ((m + 1 : Nat) : Int)) = true := decide_eq_true (by omega)
        have hd2 : (0 : Int) < ((m + 1 : Nat) : Int) := by omega
        go_wp2_with fail
        refine HEn.out.mono ?_
        rintro e w4 ⟨rfl, hb4⟩
        go_wp2_with fail
        refine bodyPost_ret (v := .tuple #[.slice none 0 0, .int .i64 re]) (by simp [results, Try.results48, go_sem]) rfl ?_
        exact RetRG.bad (HSk.out.step hb4) HQ.out
end Go.Proofs.Ytjdjfhioobhcjaa
