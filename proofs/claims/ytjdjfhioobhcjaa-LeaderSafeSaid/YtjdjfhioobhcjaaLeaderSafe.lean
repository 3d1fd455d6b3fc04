/-
  LeaderSafe: if a majority of acceptors voted for a value under a ballot, each leader of a greater one proposes it again for that slot. No conditions.
-/
import Derived.Test.YtjdjfhioobhcjaaSafeP
namespace Go.Proofs.Ytjdjfhioobhcjaa
open Go.ChangeShapes Go.WideShapes Go.ChangeAt Go.RowKit Go.Maps
set_option maxRecDepth 100000

theorem Try.accPInfo : (Try.prog.info? 24).map (fun i => (i.zero, i.size, i.bytes)) = some (some (.pointer none), 1, 8) := by kernel_rfl
theorem set_same {α : Type} {l : List α} {i : Nat} {a : α} (h : l[i]? = some a) : l.set i a = l := by
  apply List.ext_getElem?
  intro j
  by_cases e : i = j
  · subst e
    rw [List.getElem?_set_self (List.getElem?_eq_some_iff.1 h).1, h]
  · rw [List.getElem?_set_ne e]
/-- An acceptor among others. -/
structure Aq where
  p : Value
  D : Nat → Prop
  N : Nat
  A : AS
def obAs (aq : List Aq) : List Ob := aq.map (fun q => obAcc q.p q.D q.N q.A)
theorem obAs_at {aq : List Aq} {i : Nat} {q : Aq} (h : aq[i]? = some q) : (obAs aq)[i]? = some (obAcc q.p q.D q.N q.A) := by unfold obAs; rw [List.getElem?_map, h]; rfl
theorem obAs_set (aq : List Aq) (i : Nat) (q : Aq) : (obAs aq).set i (obAcc q.p q.D q.N q.A) = obAs (aq.set i q) := by unfold obAs; rw [List.map_set]
theorem SepW.accTail {W w : World} {o r : Ob} {aq : List Aq} {q : Aq} (h : SepW W w (o :: r :: obAs aq)) (hq : o = obAcc q.p q.D q.N q.A) : SepW W w (r :: obAs (aq ++ [q])) := by
  refine h.perm ?_
  subst hq
  have e : obAs (aq ++ [q]) = obAs aq ++ [obAcc q.p q.D q.N q.A] := by unfold obAs; rw [List.map_append]; rfl
  rw [e]
  exact (List.Perm.swap _ _ _).trans (List.Perm.cons _ (List.perm_append_singleton _ _).symm)
set_option maxHeartbeats 16000000 in
theorem leaderSafe_walk {x0 x1 x2 x3 x6 : Int} {v4 v5 : Value} {xs zs : List Int} {W : World} (w0 : (Lit.int .u8 x0).wf = true) (w1 : (Lit.int .u32 x1).wf = true) (w2 : (Lit.int .u32 x2).wf = true) (w3 : (Lit.int .u8 x3).wf = true) (h4 : SlR W v4 (u8s xs)) (w4 : ∀ x ∈ xs, (Lit.int .u8 x).wf = true) (h5 : SlR W v5 (u8s zs)) (w5 : ∀ x ∈ zs, (Lit.int .u8 x).wf = true) (w6 : (Lit.int .u8 x6).wf = true) :
    Calls Try.prog 12 #[.int .u8 x0, .int .u32 x1, .int .u32 x2, .int .u8 x3, v4, v5, .int .u8 x6] W fun e W' => e = .returned (.bool true) ∧ Below W.heap.size W W' := by
  simp [Lit.wf, IntKind.min, IntKind.max, IntKind.signed, IntKind.bits] at w0 w1 w2 w3 w6
  have hx8 := u8_of_wf w4
  have hz8 := u8_of_wf w5
  have HX8 := Lib.hid hx8
  have HZ8 := Lib.hid hz8
  have H4 := Lib.hid h4
  have H5 := Lib.hid h5
  obtain ⟨xo, xc, rfl, hxc, hxm⟩ := h4.form
  obtain ⟨zo, zc, rfl, hzc, hzm⟩ := h5.form
  simp only [List.length_map] at H4 H5 hxc hzc ⊢
  obtain ⟨i0, hi, hz0, hz1, hz2⟩ := info_parts Try.accPInfo
  obtain ⟨m, hm⟩ : ∃ m : Nat, x0 % 7 = (m : Int) := ⟨(x0 % 7).toNat, by omega⟩
  have hm7 : m < 7 := by omega
  have hmt : x0.tmod 7 = (m : Int) := by rw [Int.tmod_eq_emod_of_nonneg (by omega)]; exact hm
  have hmw : IntKind.u8.wrap (m : Int) = (m : Int) := IntWalk.u8_in _ (by omega)
  have hmi : IntKind.i64.wrap (m : Int) = (m : Int) := IntWalk.i64_in _ (by omega)
  obtain ⟨n, hn⟩ : ∃ n : Nat, (m : Int) + 1 = (n : Int) := ⟨m + 1, by omega⟩
  have hn7 : n ≤ 7 := by omega
  have hn1 : 1 ≤ n := by omega
  obtain ⟨b, hb⟩ : ∃ b : Int, x3 + 2 = b := ⟨_, rfl⟩
  have hb2 : 2 ≤ b ∧ b ≤ 257 := by omega
  have hxw : IntKind.u64.wrap x3 = x3 := IntWalk.u64_in _ (by omega)
  have hbw : IntKind.u64.wrap b = b := IntWalk.u64_in _ (by omega)
  have hbw1 : IntKind.u64.wrap (b + 1) = b + 1 := IntWalk.u64_in _ (by omega)
  have hbw2 : IntKind.u64.wrap (b - 1) = b - 1 := IntWalk.u64_in _ (by omega)
  have hand := and15 w6
  obtain ⟨s, hs⟩ : ∃ s : Nat, x6 % 16 = (s : Int) := ⟨(x6 % 16).toNat, by omega⟩
  rw [hs] at hand
  have hs16 : s < 16 := by omega
  have hsw : IntKind.u64.wrap (s : Int) = (s : Int) := IntWalk.u64_in _ (by omega)
  have hsi : IntKind.i64.wrap (s : Int) = (s : Int) := IntWalk.i64_in _ (by omega)
  have HUs : Hid (U1 (s : Int)) := Lib.hid ⟨by omega, by omega⟩
  have HUb : Hid (U1 b) := Lib.hid ⟨by omega, by omega⟩
  have HUb1 : Hid (U1 (b - 1)) := Lib.hid ⟨by omega, by omega⟩
  have HUb2 : Hid (U1 (b + 1)) := Lib.hid ⟨by omega, by omega⟩
  have HW := Lib.hid (fun i => wbit_and (x := x1) w1.1 (by omega) i)
  have HP := Lib.hid (fun i => wbit_and (x := x2) w2.1 (by omega) i)
  clear h4 w4 h5 w5 hx8 hz8
  generalize hwh : wbit x1 = wh at *
  generalize hpr : wbit x2 = pr at *
  clear hwh hpr
  go_enter Try.func12, Try.ntmps12
  go_wp2_with fail
  refine (lawake_any W).mono ?_
  rintro e w1 ⟨rfl, hb1⟩
  have HB1 := Lib.hid hb1
  clear hb1
  by_cases hxl : xs.length ≤ 40
  rotate_left
  · have hli : (40 : Int) < (xs.length : Int) := by omega
    go_wp2_with fail
    go_ret
    exact ⟨rfl, HB1.out⟩
  have hxd : decide ((40 : Int) < (xs.length : Int)) = false := decide_eq_false (by omega)
  by_cases hzl : zs.length ≤ 40
  rotate_left
  · have hli : (40 : Int) < (zs.length : Int) := by omega
    go_wp2_with fail
    go_ret
    exact ⟨rfl, HB1.out⟩
  have hzd : decide ((40 : Int) < (zs.length : Int)) = false := decide_eq_false (by omega)
  have HS1 : Hid (SepW W w1 (obRow (.slice none 0 0) 24 1 0 (([] : List Aq).map Aq.p) :: obAs [])) := Lib.hid ((SepW.nil HB1.out).newRow (World.ownsRow_nil _ _ _ _) (Below.refl _ _))
  clear HB1
  go_wp2_with fail
  go_loopw [21, 20, 19, 22] (fun vi vv vl _ wr => ∃ (k : Nat) (aq : List Aq) (lo : Option Addr) (lc : Nat), k ≤ n ∧ vi = .int .i64 k ∧ vv = .int .i64 (cnt k wh : Nat) ∧ vl = .slice lo k lc ∧ aq.length = k ∧ SepW W wr (obRow (.slice lo k lc) 24 1 k (aq.map Aq.p) :: obAs aq) ∧
    ∀ (j : Nat) q, aq[j]? = some q → q.A = sfA s b xs zs (wh j) ∧ q.N ≤ 2) (fun vi _ _ _ _ => n - (intOf vi).toNat)
  case atStart => exact ⟨0, [], none, 0, by omega, rfl, rfl, rfl, rfl, HS1.out, fun j q hq => by cases hq⟩
  case round =>
    clear HS1
    obtain ⟨k, aq, lo, lc, hk, rfl, rfl, rfl, hal, hsep, has⟩ := hrel
    have HSk := Lib.hid hsep
    have HA := Lib.hid has
    have HAl := Lib.hid hal
    clear hsep has hal
    by_cases hlt : k < n
    · have hki : (k : Int) < (n : Int) := by omega
      have hand2 := HW.out k
      have hwk : IntKind.u64.wrap (k : Int) = (k : Int) := IntWalk.u64_in _ (by omega)
      have hck := cnt_le k wh
      have hcs : cnt (k + 1) wh = cnt k wh + if wh k then 1 else 0 := rfl
      have HCs := Lib.hid hcs
      have hwc : IntKind.i64.wrap (((cnt k wh : Nat) : Int) + 1) = ((cnt k wh : Nat) : Int) + 1 := IntWalk.i64_in _ (by omega)
      clear hcs
      go_wp2_with fail
      refine (HSk.out.accNew).mono ?_
      rintro e w2 ⟨a0, D2, rfl, hs2⟩
      have HS2 := Lib.hid hs2
      clear hs2
      go_wp2_with fail
      refine (HS2.out.accept 0 rfl (v := ⟨(s : Int), b - 1, zs⟩) (H5.out.below HS2.out.below (Nat.le_refl _)) HUs.out HUb1.out HZ8.out (by show zs.length ≤ 1000000; omega) (by decide)).mono ?_
      rintro e w3 ⟨rfl, D3, hs3⟩
      obtain ⟨e1, e2⟩ := acc0_ok (s := (s : Int)) (b := b) (old := zs) (by omega) (by omega)
      rw [e1]
      rw [e2] at hs3
      have HS3 := Lib.hid hs3
      clear hs3 e1 e2 HS2
      cases hwh : wh k
      · rw [hwh] at hand2
        simp only [Bool.false_eq_true, if_false] at hand2
        have hce : (cnt (k + 1) wh : Nat) = cnt k wh := by rw [HCs.out, hwh]; rfl
        have HCe := Lib.hid hce
        have HS4 : Hid (SepW W w3 (obAcc (.pointer (some ⟨a0, 0, none⟩)) D3 1 (sfA s b xs zs (wh k)) :: obRow (.slice lo k lc) 24 1 k (aq.map Aq.p) :: obAs aq)) := Lib.hid (by rw [hwh]; exact HS3.out)
        clear hce HS3 hwh
        have HO5 := Lib.hid (HS4.out.get 1 rfl : World.ownsRow _ 0 24 1 (.slice lo k lc) k (aq.map Aq.p))
        have HU4 : Hid (∀ u ∈ (#[.pointer (some ⟨a0, 0, none⟩)] : Array Value).toList, u.oneCell' = true) := Lib.hid (by intro u hu; simp at hu; subst hu; rfl)
        have hk40 : k ≤ 1099511627776 := by omega
        go_wp2_with (first
          | (at_builtin; (refine wpList_appS rfl (.tmp 79) (.tmp 81) 95 rfl 0 24 i0 _ 1 8 Try.underlying95 hi hz0 hz1 hz2 rfl (by decide) (by decide) rfl rfl (by simp) rfl HO5.out HU4.out hk40 (Nat.zero_le _) ?_)
             intro g7 cap7 w7 hown7 hg7 hor7
             have hs7 := (HS4.out.rowApp 1 rfl hg7 hor7 hown7)
             have HS7 := Lib.hid (SepW.accTail (q := ⟨.pointer (some ⟨a0, 0, none⟩), D3, 1, sfA s b xs zs (wh k)⟩) hs7 rfl)
             clear hs7 hown7 hg7 hor7)
          | fail)
        go_roundw
        case rel =>
          refine ⟨k + 1, aq ++ [⟨.pointer (some ⟨a0, 0, none⟩), D3, 1, sfA s b xs zs (wh k)⟩], _, _, by omega, by go_num, by rw [HCe.out], rfl, by simp [HAl.out], by simpa using HS7.out, fun j q hq => ?_⟩
          rw [List.getElem?_append] at hq
          by_cases hj : j < aq.length
          · rw [if_pos hj] at hq; exact HA.out j q hq
          · rw [if_neg hj] at hq
            have hj0 : j = k := by
              have := (List.getElem?_eq_some_iff.1 hq).1
              have hl := HAl.out
              simp at this; omega
            subst hj0
            rw [HAl.out, Nat.sub_self] at hq
            simp at hq
            subst hq
            exact ⟨rfl, (by decide : 1 ≤ 2)⟩
        case measure => simp [intOf]; omega
      · rw [hwh] at hand2
        simp only [if_true] at hand2
        have hce : ((cnt (k + 1) wh : Nat) : Int) = ((cnt k wh : Nat) : Int) + 1 := by rw [HCs.out, hwh]; rfl
        have HCe := Lib.hid hce
        have HWh := Lib.hid hwh
        clear hce hwh
        go_wp2_with fail
        refine (HS3.out.accept 0 rfl (v := ⟨(s : Int), b, xs⟩) (H4.out.below HS3.out.below (Nat.le_refl _)) HUs.out HUb.out HX8.out (by show xs.length ≤ 1000000; omega) (by decide)).mono ?_
        rintro e w4 ⟨rfl, D4, hs4⟩
        obtain ⟨e1, e2⟩ := acc1_ok (s := (s : Int)) (b := b) (val := xs) (old := zs) (by omega)
        rw [e1]
        rw [e2] at hs4
        have HS4 : Hid (SepW W w4 (obAcc (.pointer (some ⟨a0, 0, none⟩)) D4 2 (sfA s b xs zs (wh k)) :: obRow (.slice lo k lc) 24 1 k (aq.map Aq.p) :: obAs aq)) := Lib.hid (by rw [HWh.out]; exact hs4)
        clear hs4 e1 e2 HS3
        have HO5 := Lib.hid (HS4.out.get 1 rfl : World.ownsRow _ 0 24 1 (.slice lo k lc) k (aq.map Aq.p))
        have HU4 : Hid (∀ u ∈ (#[.pointer (some ⟨a0, 0, none⟩)] : Array Value).toList, u.oneCell' = true) := Lib.hid (by intro u hu; simp at hu; subst hu; rfl)
        have hk40 : k ≤ 1099511627776 := by omega
        go_wp2_with (first
          | (at_builtin; (refine wpList_appS rfl (.tmp 79) (.tmp 81) 95 rfl 0 24 i0 _ 1 8 Try.underlying95 hi hz0 hz1 hz2 rfl (by decide) (by decide) rfl rfl (by simp) rfl HO5.out HU4.out hk40 (Nat.zero_le _) ?_)
             intro g7 cap7 w7 hown7 hg7 hor7
             have hs7 := (HS4.out.rowApp 1 rfl hg7 hor7 hown7)
             have HS7 := Lib.hid (SepW.accTail (q := ⟨.pointer (some ⟨a0, 0, none⟩), D4, 2, sfA s b xs zs (wh k)⟩) hs7 rfl)
             clear hs7 hown7 hg7 hor7)
          | fail)
        go_roundw
        case rel =>
          refine ⟨k + 1, aq ++ [⟨.pointer (some ⟨a0, 0, none⟩), D4, 2, sfA s b xs zs (wh k)⟩], _, _, by omega, by go_num, by rw [HCe.out], rfl, by simp [HAl.out], by simpa using HS7.out, fun j q hq => ?_⟩
          rw [List.getElem?_append] at hq
          by_cases hj : j < aq.length
          · rw [if_pos hj] at hq; exact HA.out j q hq
          · rw [if_neg hj] at hq
            have hj0 : j = k := by
              have := (List.getElem?_eq_some_iff.1 hq).1
              have hl := HAl.out
              simp at this; omega
            subst hj0
            rw [HAl.out, Nat.sub_self] at hq
            simp at hq
            subst hq
            exact ⟨rfl, (by decide : 2 ≤ 2)⟩
        case measure => simp [intOf]; omega
    · have hkn : n = k := by omega
      subst hkn
      have hkd : decide ((n : Int) < (n : Int)) = false := decide_eq_false (by omega)
      have HAll : Hid (∀ j, j < n → ∃ q, aq[j]? = some q ∧ q.A = sfA s b xs zs (wh j) ∧ q.N ≤ 2) := Lib.hid (fun j hj => by
        have hg : aq[j]? = some (aq[j]'(by have := HAl.out; omega)) := List.getElem?_eq_getElem _
        exact ⟨_, hg, HA.out j _ hg⟩)
      obtain ⟨cv, hcv⟩ : ∃ cv : Nat, cv = cnt n wh := ⟨_, rfl⟩
      rw [← hcv]
      have HCv := Lib.hid hcv
      clear hcv hlt hk HA
      go_wp2_with fail
      refine (HSk.out.leaNew (many := (n : Int)) (by omega)).mono ?_
      rintro e w2 ⟨b0, D, rfl, hs1⟩
      have HS1 := Lib.hid hs1
      clear hs1 HSk
      go_wp2_with fail
      refine (HS1.out.leaBegin 0 rfl (b := b + 1) (fr := 0) (by show (0 : Int) < b + 1; omega) HUb2.out (by constructor <;> decide)).mono ?_
      rintro e w3 ⟨rfl, D2, hs2⟩
      have HS2 : Hid (SepW W w3 (obLea (.pointer (some ⟨b0, 0, none⟩)) D2 0 (beginL (newLS n) (b + 1) 0) :: obRow (.slice lo n lc) 24 1 n (aq.map Aq.p) :: obAs aq)) := Lib.hid hs2
      clear hs2 HS1
      go_wp2_with fail
      obtain ⟨ps, hps⟩ : ∃ ps, ps = aq.map Aq.p := ⟨_, rfl⟩
      rw [← hps] at HS2
      have HPs := Lib.hid hps.symm
      clear hps
      go_loopw [25, 26, 27, 28, 29] (fun vi _ _ _ _ wr => ∃ (i : Nat) (aq : List Aq) (D : Nat → Prop) (N : Nat) (A : LS), i ≤ n ∧ vi = .int .i64 i ∧ SepW W wr (obLea (.pointer (some ⟨b0, 0, none⟩)) D N A :: obRow (.slice lo n lc) 24 1 n ps :: obAs aq) ∧ aq.map Aq.p = ps ∧ N ≤ i ∧
        (∀ j, i ≤ j → j < n → ∃ q, aq[j]? = some q ∧ q.A = sfA s b xs zs (wh j) ∧ q.N ≤ 2) ∧ StS n s b xs zs pr wh i A) (fun vi _ _ _ _ _ => n - (intOf vi).toNat)
      case atStart => exact ⟨0, aq, D2, 0, _, by omega, rfl, HS2.out, HPs.out, by omega, fun j _ hj => HAll.out j hj, StS.start n s b xs zs pr wh⟩
      case round =>
        clear HS2 HPs HAll HAl aq
        obtain ⟨i, aq, D, N, A, hin, rfl, hsep, hps, hNi, hall, hst⟩ := hrel
        have HSi := Lib.hid hsep
        have HPs := Lib.hid hps
        have HAll := Lib.hid hall
        have HSt := Lib.hid hst
        clear hsep hps hall hst
        by_cases hlt : i < n
        · have hii : (i : Int) < (n : Int) := by omega
          have hand3 := HP.out i
          have hwi : IntKind.u64.wrap (i : Int) = (i : Int) := IntWalk.u64_in _ (by omega)
          cases hpri : pr i
          · rw [hpri] at hand3
            simp only [Bool.false_eq_true, if_false] at hand3
            have HS3 := Lib.hid (HSt.out.skip hpri)
            clear hpri
            go_wp2_with fail
            go_roundw
            case rel => exact ⟨i + 1, aq, D, N, A, by omega, by go_num, HSi.out, HPs.out, by omega, fun j h1 h2 => HAll.out j (by omega) h2, HS3.out⟩
            case measure => simp [intOf]; omega
          · rw [hpri] at hand3
            simp only [if_true] at hand3
            have HPr := Lib.hid hpri
            obtain ⟨q, hq, hqA, hqN⟩ := HAll.out i (Nat.le_refl _) hlt
            have hpi : ps[i]? = some q.p := by rw [← HPs.out, List.getElem?_map, hq]; rfl
            obtain ⟨ra, rc, hre, _, _, hrx⟩ := HSi.out.row 1 rfl
            have hpl : ps.length = n := (HSi.out.get 1 rfl : World.ownsRow wr 0 24 1 (.slice lo n lc) n ps).1.trans (by omega)
            rw [hpl] at hre
            cases hre
            obtain ⟨rb, rfl, hrc⟩ := hrx i _ hpi
            have HQ := Lib.hid hq
            have HPrep := Lib.hid (HSi.out.prepOk (i + 2) (p := q.p) (D := q.D) (N := q.N) (A := q.A) (by simpa using obAs_at hq) (x := b + 1) (fr := 0) (by rw [hqA]; exact sfA_promised ..) HUb2.out (by omega))
            have HQA := Lib.hid hqA
            have HQN := Lib.hid hqN
            clear hrx hpi hq hqA hpri hpl
            go_wp2_with fail
            refine HPrep.out.mono ?_
            rintro e w4 ⟨ks, ao, c, vs, hks, rfl, hs4⟩
            rw [HQA.out] at hks
            have hvl := sfA_votes (by omega : (0 : Int) ≤ (s : Int)) hks
            rw [← HQA.out] at hvl
            rw [hvl] at hs4 ⊢
            obtain ⟨aq', haq⟩ : ∃ aq', aq' = aq.set i ⟨q.p, q.D, q.N, ⟨b + 1, q.A.low, q.A.l⟩⟩ := ⟨_, rfl⟩
            have HS4 : Hid (SepW W w4 (obVts (.slice ao 1 c) 39 vs [sfV s b xs zs (wh i)] :: obLea (.pointer (some ⟨b0, 0, none⟩)) D N A :: obRow (.slice (some rb) n lc) 24 1 n ps :: obAs aq')) := Lib.hid (by rw [haq, ← obAs_set]; exact hs4)
            have HPs2 : Hid (aq'.map Aq.p = ps) := Lib.hid (by
              rw [haq, List.map_set, HPs.out]
              have : ps[i]? = some q.p := by rw [← HPs.out, List.getElem?_map, HQ.out]; rfl
              exact set_same this)
            have HAll2 : Hid (∀ j, i + 1 ≤ j → j < n → ∃ q, aq'[j]? = some q ∧ q.A = sfA s b xs zs (wh j) ∧ q.N ≤ 2) := Lib.hid (fun j h1 h2 => by
              rw [haq, List.getElem?_set_ne (by omega)]; exact HAll.out j (by omega) h2)
            clear hs4 haq hvl hks HPs HAll
            have HVt := Lib.hid (HS4.out.vtHeld 1 0 (by decide) rfl rfl)
            have hA1 : A.stage = 1 := HSt.out.stage
            have hpp : A.prom i = false := by rw [HSt.out.prom]; unfold promS; simp
            have HLp := Lib.hid (HS4.out.leaProm 1 rfl (n := i) (b := b + 1) (low := 0) (v := .slice ao 1 c) (hs := [sfV s b xs zs (wh i)]) ⟨hA1, HSt.out.ballot.symm, by omega, by rw [HSt.out.many]; omega⟩ hpp (by constructor <;> decide) HVt.out
              (by intro v hv; simp at hv; subst hv; unfold sfV; split
                  · exact ⟨HUs.out, HUb.out, HX8.out, by show xs.length ≤ 1000000; omega⟩
                  · exact ⟨HUs.out, HUb1.out, HZ8.out, by show zs.length ≤ 1000000; omega⟩) (by simp; omega))
            have HSt2 := Lib.hid (HSt.out.step HPr.out)
            clear hA1 hpp HVt
            go_wp2_with fail
            refine HLp.out.mono ?_
            rintro e w5 (⟨hm, rfl, D5, hs5⟩ | ⟨_, hf, _⟩ | ⟨hm, _, en, D5, ks, bo, bc, bvs, hen, hks, rfl, hs5⟩)
            · have HS5 : Hid (SepW W w5 (obLea (.pointer (some ⟨b0, 0, none⟩)) D5 (N + 1) (promV A i 0 [sfV s b xs zs (wh i)]) :: obRow (.slice (some rb) n lc) 24 1 n ps :: obAs aq')) := Lib.hid (SepW.sub hs5 (List.sublist_cons_self _ _))
              clear hs5 hm
              go_wp2_with fail
              go_roundw
              case rel => exact ⟨i + 1, aq', D5, N + 1, _, by omega, by go_num, HS5.out, HPs2.out, by omega, HAll2.out, HSt2.out⟩
              case measure => simp [intOf]; omega
            · exact absurd hf (HSt2.out.near HPr.out ⟨by omega, by omega⟩)
            · obtain rfl : en = (s : Int) + 1 := hen.unique (HSt2.out.end_ HPr.out ⟨by omega, by omega⟩)
              have hfi : (promV A i 0 [sfV s b xs zs (wh i)]).first = 0 := HSt2.out.first
              have hop : opL (leadP (promV A i 0 [sfV s b xs zs (wh i)]) ((s : Int) + 1)) ks = leadV (promV A i 0 [sfV s b xs zs (wh i)]) (s + 1) := lead_votes hks HSt2.out.op (by rw [hfi]; simp)
              have hLk : (leadV (promV A i 0 [sfV s b xs zs (wh i)]) (s + 1))[s]? = some ⟨(s : Int), b + 1, if anyP (fun j => pr j && wh j) (i + 1) then xs else zs⟩ := by
                rw [leadV_at (by omega), hfi, HSt2.out.ballot, Int.zero_add, leadS_val HSt2.out HPr.out]
              have hpl : (leadV (promV A i 0 [sfV s b xs zs (wh i)]) (s + 1)).length = s + 1 := leadV_len _ _
              rw [hop, hpl] at hs5 ⊢
              have hmeet : cv ≤ n / 2 ∨ anyP (fun j => pr j && wh j) (i + 1) = true := by
                by_cases hv : cv ≤ n / 2
                · exact Or.inl hv
                · right
                  rw [HSt2.out.many, HSt2.out.prom] at hm
                  exact StS.meets (by omega) (by omega) hm (by rw [← HCv.out]; omega)
              have hv := (hs5.get 0 rfl : (obVts (.slice bo (s + 1) bc) 39 bvs (leadV (promV A i 0 [sfV s b xs zs (wh i)]) (s + 1))).inv w5)
              obtain ⟨ao', c', he, hc1, hc2, hvx⟩ := VtL.of_own hv.1 hv.2.1
              rw [hpl] at he
              cases he
              obtain ⟨pa, sv, rfl, q0, q1, q2, hsv⟩ := hvx s _ hLk
              have HB5 := Lib.hid hs5.below
              have HMt := Lib.hid hmeet
              clear hvx hv hLk hop hpl hs5 hks hen hm hfi hmeet
              generalize anyP (fun j => pr j && wh j) (i + 1) = am at *
              simp only at q0 q1 q2 hsv
              generalize hrs : (if am = true then xs else zs) = rs at *
              obtain ⟨so, sc, rfl, hsc1, hsc2⟩ := hsv.form
              simp only [List.length_map] at q2 hsv hsc1
              have hcv1 : ∀ d, (convert 30 9 (.slice so rs.length sc)).run Try.prog (World.drewN w5 d) = .ok (.string (strB rs)) (World.drewN w5 d) := fun d => run_strB Try.underlying30 Try.underlying5 Try.underlying9 (hsv.drewN d)
              have hcv2 : ∀ d, (convert 30 9 (.slice xo xs.length xc)).run Try.prog (World.drewN w5 d) = .ok (.string (strB xs)) (World.drewN w5 d) := fun d => run_strB Try.underlying30 Try.underlying5 Try.underlying9 ((H4.out.below HB5.out (Nat.le_refl _)).drewN d)
              have hn2 : IntKind.i64.wrap ((n : Int).tdiv 2) = (n : Int) / 2 := by rw [Int.tdiv_eq_ediv_of_nonneg (by omega)]; exact IntWalk.i64_in _ (by constructor <;> omega)
              have HRs := Lib.hid hrs
              clear hsv hrs
              by_cases hcn : cv ≤ n / 2
              · have hcd : decide ((cv : Int) ≤ (n : Int) / 2) = true := decide_eq_true (by omega)
                go_wp2_with fail
                go_quiet (fail)
                go_wp2_with fail
                go_ret
                exact ⟨rfl, by first | exact below_drewN HB5.out _ | exact HB5.out.drew⟩
              · have hcd : decide ((cv : Int) ≤ (n : Int) / 2) = false := decide_eq_false (by omega)
                have ham : am = true := by
                  rcases HMt.out with h | h
                  · exact absurd h hcn
                  · exact h
                have hrs := HRs.out
                rw [if_pos ham] at hrs
                subst hrs
                clear ham hcn
                go_wp2_with fail
                go_quiet (fail)
                go_wp2_with fail
                go_ret
                exact ⟨by first | rfl | simp, by first | exact below_drewN HB5.out _ | exact HB5.out.drew⟩
        · have hni : n = i := by omega
          subst hni
          have hkd : decide ((n : Int) < (n : Int)) = false := decide_eq_false (by omega)
          clear hlt hin
          go_wp2_with fail
          refine (HSi.out.leaLeads 0 rfl).mono ?_
          rintro e w6 ⟨rfl, rfl⟩
          rw [show (A.stage == 2) = false from by rw [HSt.out.stage]; rfl]
          go_wp2_with fail
          go_ret
          exact ⟨rfl, HSi.out.below⟩
theorem leaderSafe_holds : Rows.LeaderSafeSaid :=
  OpenClaim.holds_of_wide 12 Try.f12 rfl rfl rfl rfl rfl rfl rfl ⟨rfl, rfl, rfl, rfl, rfl⟩ rfl rfl rfl rfl rfl (by kernel_rfl) Try.func12 (by kernel_rfl)
    (of_decide_eq_true (by kernel_rfl)) (by unfold Func.isWrapper; rw [if_neg (by decide +kernel)]; exact ⟨rfl, rfl⟩)
    (fun os started H enc _ => law_frame (C := Try.checked) (fn := Try.f12) (s := Rows.leaderSafeSpec) (tb := 4) Try.own started (by kernel_rfl) Try.func12 Try.laidOut rfl (by kernel_rfl) Try.underlying4 (by kernel_rfl)
      (fun ds hd => by match ds, hd with | [_, _, _, _, _, _, _], _ => exact ⟨rfl, rfl, rfl⟩)
      (ChangeSpec.witness6 (enc := enc) (C := Try.checked) false ⟨#[], #[.int .u8 0, .int .u32 0, .int .u32 0, .int .u8 0, .slice none 0 0, .slice none 0 0, .int .u8 0], []⟩ 8 (by kernel_rfl) (by kernel_rfl) (by kernel_rfl) (by kernel_rfl))
      (fun W base args ds p hval0 hA0 _ => by
        have hval : ∀ (j : Nat) t v, Try.f12.params[j]? = some t → args[j]? = some v → Value.okWide Try.prog W .any base t v := hval0
        have hA : DataW.TrodAll enc Try.prog W 0 (fun _ => true) true Try.f12.params.toList args.toList ds p := hA0
        rw [Try.params12] at hA hval
        obtain ⟨v0, vs0, d0, ds0, p0, q0, e0, rfl, rfl, h0, hA0⟩ := trodAll_cons hA
        obtain ⟨v1, vs1, d1, ds1, p1, q1, e1, rfl, rfl, h1, hA1⟩ := trodAll_cons hA0
        subst e1
        obtain ⟨v2, vs2, d2, ds2, p2, q2, e2, rfl, rfl, h2, hA2⟩ := trodAll_cons hA1
        subst e2
        obtain ⟨v3, vs3, d3, ds3, p3, q3, e3, rfl, rfl, h3, hA3⟩ := trodAll_cons hA2
        subst e3
        obtain ⟨v4, vs4, d4, ds4, p4, q4, e4, rfl, rfl, h4, hA4⟩ := trodAll_cons hA3
        subst e4
        obtain ⟨v5, vs5, d5, ds5, p5, q5, e5, rfl, rfl, h5, hA5⟩ := trodAll_cons hA4
        subst e5
        obtain ⟨v6, vs6, d6, ds6, p6, q6, e6, rfl, rfl, h6, hA6⟩ := trodAll_cons hA5
        subst e6
        obtain ⟨rfl, rfl, rfl⟩ := trodAll_nil hA6
        obtain rfl : args = #[v0, v1, v2, v3, v4, v5, v6] := by cases args; simp_all
        obtain ⟨x0, rfl, rfl, rfl, wx0⟩ := open_int Try.underlying5 (hval 0 5 v0 rfl rfl) h0
        obtain ⟨x1, rfl, rfl, rfl, wx1⟩ := open_int Try.underlying94 (hval 1 94 v1 rfl rfl) h1
        obtain ⟨x2, rfl, rfl, rfl, wx2⟩ := open_int Try.underlying94 (hval 2 94 v2 rfl rfl) h2
        obtain ⟨x3, rfl, rfl, rfl, wx3⟩ := open_int Try.underlying5 (hval 3 5 v3 rfl rfl) h3
        obtain ⟨x4, hx4, wx4⟩ := arg_ints Try.underlying30 Try.underlying5 (by kernel_rfl) (hval 4 30 v4 rfl rfl) h4
        obtain ⟨x5, hx5, wx5⟩ := arg_ints Try.underlying30 Try.underlying5 (by kernel_rfl) (hval 5 30 v5 rfl rfl) h5
        obtain ⟨x6, rfl, rfl, rfl, wx6⟩ := open_int Try.underlying5 (hval 6 5 v6 rfl rfl) h6
        exact leaderSafe_walk wx0 wx1 wx2 wx3 hx4 wx4 hx5 wx5 wx6))

end Go.Proofs.Ytjdjfhioobhcjaa
