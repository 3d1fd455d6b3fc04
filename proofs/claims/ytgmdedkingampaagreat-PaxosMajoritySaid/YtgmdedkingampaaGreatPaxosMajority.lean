/-
  PaxosMajority: without a majority nothing is chosen, and nobody leads. No conditions.
-/
import Derived.Test.YtgmdedkingampaaGreatPxZc
import Derived.Test.YtgmdedkingampaaGreatClO
import Derived.Test.YtgmdedkingampaaGreatMajP
import Derived.Test.YtgmdedkingampaaGreatFrame
set_option linter.unusedVariables false
set_option linter.unusedSimpArgs false
namespace Go.Proofs.YtgmdedkingampaaGreat
open Go.ChangeShapes Go.WideShapes Go.ChangeAt Go.RowKit Go.Maps
set_option maxRecDepth 1000000

set_option maxHeartbeats 4000000 in
theorem paxosMajority_walk {x0 : Int} {bv : Value} {bs : List Int} {W : World} (w0 : (Lit.int .u8 x0).wf = true) (hb : SlR W bv (u8s bs)) (wb : ∀ x ∈ bs, (Lit.int .u8 x).wf = true) :
    Calls Tryz.prog 4 #[.int .u8 x0, bv] W fun e W' => e = .returned (.bool true) ∧ Below W.heap.size W W' := by
  simp [Lit.wf, IntKind.min, IntKind.max, IntKind.signed, IntKind.bits] at w0 wb
  obtain ⟨bo, bc, rfl, _, _⟩ := hb.form
  simp only [List.length_map] at *
  have HB := Lib.hid hb
  have HW := Lib.hid wb
  have HAw := Lib.hid (awake_any W)
  clear hb wb
  go_enter Tryz.func4, Tryz.ntmps4
  go_wp2_with fail
  refine HAw.out.mono ?_
  rintro e w1 ⟨rfl, hb1⟩
  have HB1 := Lib.hid hb1
  clear hb1 HAw
  by_cases hl : bs.length ≤ 100
  rotate_left
  · have hli : (100 : Int) < (bs.length : Int) := by omega
    go_wp2_with fail
    go_ret
    exact ⟨rfl, HB1.out⟩
  have hli : decide ((100 : Int) < (bs.length : Int)) = false := decide_eq_false (by omega)
  go_upto_region 6 with fail
  go_cut [6] (fun s6 wx => ∃ n : Nat, s6 = .int .i64 n ∧ Hid (n = 3 ∨ n = 5) ∧ wx = w1)
  case first =>
    rcases (by omega : x0 % 2 = 0 ∨ x0 % 2 = 1) with hr | hr
    · go_wp2_with fail
      go_meet
      exact ⟨3, rfl, Lib.hid (Or.inl rfl), rfl⟩
    · go_wp2_with fail
      go_meet
      exact ⟨5, rfl, Lib.hid (Or.inr rfl), rfl⟩
  case rest =>
  obtain ⟨n, rfl, HN, rfl⟩ := hcut
  obtain ⟨few, HQ⟩ : ∃ few : Nat, Hid ((n = 3 ∧ few = 1) ∨ (n = 5 ∧ few = 2)) := by
    rcases HN.out with rfl | rfl
    · exact ⟨1, Lib.hid (by omega)⟩
    · exact ⟨2, Lib.hid (by omega)⟩
  have HF : Hid (few * 2 ≤ n ∧ 1 ≤ few) := Lib.hid (by have := HQ.out; omega)
  have HMa := Lib.hid (cl_made ((SepW.nil (Below.refl W.heap.size W)).step HB1.out) (n := n) (by have := HN.out; omega))
  go_wp2_with fail
  refine HMa.out.mono ?_
  rintro e w2 ⟨c, dv, nv, qs, rfl, hc2, hq2⟩
  have hxl : (newXs n n).length = n := by unfold newXs; simp
  obtain ⟨gd, dc, gn, nc, hdv, hnv⟩ := hc2.vals (by rw [hxl]; have := HN.out; omega)
  rw [hxl] at hdv hnv
  subst hdv
  subst hnv
  have HC2 := Lib.hid hc2
  have HS2 : Hid (MjSt n few 400 (newXs n n) []) := Lib.hid (mj_new (by have := HN.out; omega))
  clear hc2 HMa hq2
  go_upto_region 10 with fail
  go_cut [8] (fun s8 wx => s8 = .int .i64 few ∧ wx = w2)
  case first =>
    clear HC2 HS2 HF HN
    rcases HQ.out with ⟨rfl, rfl⟩ | ⟨rfl, rfl⟩
    · go_wp2_with fail
      go_meet
      exact ⟨rfl, rfl⟩
    · go_wp2_with fail
      go_meet
      exact ⟨rfl, rfl⟩
  case rest =>
  obtain ⟨rfl, rfl⟩ := hcut
  go_wp2_with fail
  go_loopw [9, 10, 11, 12] (fun iv _ _ _ wr => ∃ (i : Nat) (xs : List Nd) (ms : List (Int × Om)), i ≤ bs.length ∧ iv = .int .i64 i ∧ Hid (Clu W wr [] c (.slice (some ⟨gd, 0, none⟩) n dc) (.slice (some ⟨gn, 0, none⟩) n nc) qs xs ms) ∧ Hid (MjSt n few (400 - i) xs ms)) (fun iv _ _ _ _ => bs.length - (intOf iv).toNat)
  case atStart => exact ⟨0, newXs n n, [], by omega, rfl, HC2, HS2⟩
  case round =>
    clear HC2 HS2
    obtain ⟨i, xs, ms, hi, rfl, hc, hs⟩ := hrel
    have HOk : Hid (OkSt 100 n xs ms) := Lib.hid (hs.out.ok (by have := HN.out; omega) (by omega))
    have hxn : xs.length = n := HOk.out.n
    by_cases hlt : i < bs.length
    · have hlt2 : (i : Int) < (bs.length : Int) := by omega
      obtain ⟨a, ha⟩ : ∃ a, bs[i]? = some a := ⟨_, List.getElem?_eq_getElem hlt⟩
      obtain ⟨aa, hau, hcm⟩ := (HB.out.below hc.out.below (Nat.le_refl _)).at' (m := i) (u := .int .u8 a) (by simp [ha])
      subst hau
      have HU : Hid (0 ≤ a ∧ a ≤ 255) := Lib.hid (HW.out a (List.mem_of_getElem? ha))
      obtain ⟨c0, c1, c2, mo, mc, c3, hmc⟩ := hc.out.cells
      rw [hxn] at c0
      have hfz : ((few : Int) == 0) = false := beq_eq_false_iff_ne.2 (by have := HF.out; omega)
      have hfz2 : decide ((few : Int) = 0) = false := decide_eq_false (by have := HF.out; omega)
      have hfz3 : ¬ (few : Int) = 0 := by have := HF.out; omega
      have hfz4 : ¬ few = 0 := by have := HF.out; omega
      have t0 : (0 : Int) ≤ (a / 4).tmod (few : Int) := Int.tmod_nonneg _ (by have := HU.out; omega)
      have t1 : (a / 4).tmod (few : Int) < few := Int.tmod_lt_of_pos _ (by have := HF.out; omega)
      generalize hkt : (a / 4).tmod (few : Int) = kk at t0 t1
      obtain ⟨k, rfl⟩ : ∃ k : Nat, kk = k := ⟨kk.toNat, by omega⟩
      have HK : Hid (k < few) := Lib.hid (by omega)
      clear t0 t1
      have ha0 : 0 ≤ a := HU.out.1
      have ha1 : a ≤ 255 := HU.out.2
      have hf5 : few ≤ 5 := by have := HF.out; have := HN.out; omega
      clear ha
      go_upto_region 15 with fail
      have hand : bits BinOp.and IntKind.u8 a 3 = a % 4 := bits_mask .u8 8 (by decide) (fun n h0 h1 => IntWalk.u8_in n (by constructor <;> omega)) 2 (by decide) a ha0 (by omega)
      obtain ⟨x, hx⟩ : ∃ x, xs[k]? = some x := ⟨_, List.getElem?_eq_getElem (by have := HK.out; have := HF.out; omega)⟩
      obtain ⟨q, hq, -, n0⟩ := hc.out.node hx
      have HX := Lib.hid hx
      have HQq := Lib.hid hq
      have hkn : (k : Int) < (n : Int) := by have := HK.out; have := HF.out; omega
      have hnd : Hid (MjNd n few k (400 - i) x) := Lib.hid (hs.out.nd k x hx)
      have hn7 : Hid (1 ≤ n ∧ n ≤ 7) := Lib.hid (by have := HN.out; omega)
      have hi4 : Hid (i < 100) := Lib.hid (by omega)
      clear hx hq
      rcases (by omega : a % 4 = 0 ∨ a % 4 = 1 ∨ (a % 4 = 2 ∨ a % 4 = 3)) with hr | hr | hr
      · have HT := Lib.hid (clu_tick (Mb := 100) hc.out HX.out HQq.out (fun _ => hnd.out.ok hn7.out (by have := HK.out; have := HF.out; omega) (by have := hi4.out; omega)))
        go_wp2_with fail
        refine HT.out.mono ?_
        rintro e w3 ⟨v, y, outs, rfl, ht, hco⟩
        obtain ⟨vo, vc, rfl⟩ := hco.form
        have HTk : Hid (MjSt n few (400 - (i + 1)) (xs.set k y) (sendO k outs ms)) := Lib.hid ((hs.out.tick HF.out.1 hn7.out (by have := hi4.out; omega) HK.out HX.out ht).mono (by omega))
        have HSn := Lib.hid (clu_send hco HOk.out.m (k : Int))
        clear hco ht HT c0 c1 c2 c3 n0
        go_wp2_with fail
        refine HSn.out.mono ?_
        rintro e w4 ⟨rfl, hc4⟩
        have HC4 := Lib.hid hc4
        clear hc4 HSn
        go_wp2_with fail
        go_roundw
        case rel => exact ⟨i + 1, _, _, by omega, by go_num, HC4, HTk⟩
        case measure => simp [intOf]; omega
      · have hcl := hc.out.newBlk #[.int .u8 1] 5
        have HP := Lib.hid (clu_prop hcl HX.out HQq.out (bv := .slice (some ⟨wr.heap.size, 0, none⟩) 1 1) (bs := [1]) (Held.blk 0 rfl) (by intro z hz; rw [List.mem_singleton.1 hz]; decide) (by decide) (by rw [hnd.out.NL]; decide) (by rw [hnd.out.ps, psN_len]; exact hn7.out.2))
        clear hcl
        go_wp2_with fail
        refine HP.out.mono ?_
        rintro e w3 ⟨v, y, outs, er, rfl, hp, hco⟩
        obtain ⟨rfl, rfl, rfl⟩ := hnd.out.propose hp
        obtain ⟨vo, vc, rfl⟩ := hco.form
        have hset : xs.set k y = xs := set_self HX.out
        have HTk : Hid (MjSt n few (400 - (i + 1)) xs (sendO k [] ms)) := Lib.hid (by
          have h1 : sendO (k : Int) [] ms = ms := by unfold sendO; simp
          rw [h1]
          exact hs.out.mono (by omega))
        rw [hset] at hco
        have HSn := Lib.hid (clu_send hco HOk.out.m (k : Int))
        clear hco hp HP c0 c1 c2 c3 n0 hset
        go_wp2_with fail
        refine HSn.out.mono ?_
        rintro e w4 ⟨rfl, hc4⟩
        have HC4 := Lib.hid (hc4.sub (List.sublist_cons_self ..))
        clear hc4 HSn
        go_wp2_with fail
        go_roundw
        case rel => exact ⟨i + 1, _, _, by omega, by go_num, HC4, HTk⟩
        case measure => simp [intOf]; omega
      · have HDl := Lib.hid (clu_deliver hc.out HOk.out (by have := hn7.out; omega) 0 (by omega) false)
        rw [show ((0 : Nat) : Int) = 0 from rfl] at HDl
        by_cases hm0 : ms = []
        · subst hm0
          simp only [List.length_nil] at c3
          have HDd : Hid (∀ xs' ms', DelR xs [] 0 false xs' ms' → MjSt n few (400 - (i + 1)) xs' ms') := Lib.hid (fun xs' ms' hd => (hs.out.deliver HF.out.1 hn7.out (by have := hi4.out; omega) (by intro p hp; cases hp) hd).mono (by omega))
          rcases hr with hr | hr
          all_goals
            go_wp2_with fail
            refine HDl.out.mono ?_
            rintro e w4 ⟨rfl, xs', ms', hc4, hd4⟩
            have HC4 := Lib.hid hc4
            have HD4 := Lib.hid (HDd.out _ _ hd4)
            clear hc4 HDl hd4
            go_wp2_with fail
            go_roundw
            case rel => exact ⟨i + 1, _, _, by omega, by go_num, HC4, HD4⟩
            case measure => simp [intOf]; omega
        · obtain ⟨g, o, mc', c3', hmc1, hmc2, cf3, hto, hls⟩ := hc.out.lose hm0
          have hml : 0 < ms.length := List.length_pos_iff.2 hm0
          obtain ⟨p, hp⟩ : ∃ p, ms[0]? = some p := ⟨_, List.getElem?_eq_getElem hml⟩
          have d1 := hto 0 0 0 p hp
          have hz : decide ((0 : Int) < (ms.length : Int)) = true := decide_eq_true (by omega)
          have HP0 := Lib.hid hp
          have HLs := Lib.hid hls
          have HM0 := Lib.hid hm0
          clear hto hp c3 hls hm0
          by_cases htf : (few : Int) ≤ p.2.dst
          · have HDr : Hid (MjSt n few (400 - (i + 1)) xs (ms.drop 1)) := Lib.hid (hs.out.drop1.mono (by omega))
            have hd9 : decide ((few : Int) ≤ p.2.dst) = true := decide_eq_true htf
            rcases hr with hr | hr
            all_goals
              go_wp2_with fail
              go_roundw
              case rel => exact ⟨i + 1, _, _, by omega, by go_num, HLs, HDr⟩
              case measure => simp [intOf]; omega
          · have hd9 : decide ((few : Int) ≤ p.2.dst) = false := decide_eq_false htf
            have HTf := Lib.hid htf
            have HDd : Hid (∀ xs' ms', DelR xs ms 0 false xs' ms' → MjSt n few (400 - (i + 1)) xs' ms') := Lib.hid (fun xs' ms' hd => (hs.out.deliver HF.out.1 hn7.out (by have := hi4.out; omega) (by
              intro p' hp'
              rw [HP0.out] at hp'
              cases hp'
              have := HTf.out
              omega) hd).mono (by omega))
            clear htf
            rcases hr with hr | hr
            all_goals
              go_wp2_with fail
              refine HDl.out.mono ?_
              rintro e w4 ⟨rfl, xs', ms', hc4, hd4⟩
              have HC4 := Lib.hid hc4
              have HD4 := Lib.hid (HDd.out _ _ hd4)
              clear hc4 HDl hd4
              go_wp2_with fail
              go_roundw
              case rel => exact ⟨i + 1, _, _, by omega, by go_num, HC4, HD4⟩
              case measure => simp [intOf]; omega
    · have hie : i = bs.length := by omega
      subst hie
      have hkd : decide ((bs.length : Int) < (bs.length : Int)) = false := decide_eq_false (by omega)
      have HNn : Hid (∀ (k : Nat) x, xs[k]? = some x → (x.L.stage == 2) = false ∧ x.next = 0) := Lib.hid (fun k x hx => ⟨beq_eq_false_iff_ne.2 (hs.out.nd k x hx).notLead, (hs.out.nd k x hx).next⟩)
      have HXn := Lib.hid hxn
      clear hlt hi hs HOk hxn
      go_wp2_with fail
      have hn5 : n ≤ 7 := by have := HN.out; omega
      go_loopw [13] (fun jv wx => ∃ j : Nat, j ≤ n ∧ jv = .int .i64 j ∧ Hid (wx = wr)) (fun jv _ => n - (intOf jv).toNat)
      case atStart => exact ⟨0, by omega, rfl, by first | exact Lib.hid rfl | exact Lib.hid trivial⟩
      case round =>
        obtain ⟨j, hj, rfl, hw⟩ := hrel
        have hw' := hw.out
        clear hw
        subst hw'
        by_cases hjl : j < n
        · have hjl2 : (j : Int) < (n : Int) := by omega
          obtain ⟨x, hx⟩ : ∃ x, xs[j]? = some x := ⟨_, List.getElem?_eq_getElem (by have := HXn.out; omega)⟩
          obtain ⟨q, hq, -, n0⟩ := hc.out.node hx
          obtain ⟨c0, c1, c2, -⟩ := hc.out.cells
          have HLd := Lib.hid (clu_leads hc.out hx hq)
          have HNx := Lib.hid (clu_next hc.out hx hq)
          rw [(HNn.out j x hx).1] at HLd
          rw [(HNn.out j x hx).2] at HNx
          clear hx hq c0 c1
          go_wp2_with fail
          refine HLd.out.mono ?_
          rintro e w' ⟨rfl, rfl⟩
          go_wp2_with fail
          refine HNx.out.mono ?_
          rintro e w' ⟨rfl, rfl⟩
          go_wp2_with fail
          go_roundw
          case rel => exact ⟨j + 1, by omega, by go_num, by first | exact Lib.hid rfl | exact Lib.hid trivial⟩
          case measure => simp [intOf]; omega
        · have hje : j = n := by omega
          subst hje
          have hkd : decide ((j : Int) < (j : Int)) = false := decide_eq_false (by omega)
          clear hjl hj
          go_wp2_with fail
          go_ret
          exact ⟨rfl, hc.out.below⟩
theorem paxosMajority_holds : Rows.PaxosMajoritySaid :=
  OpenClaim.holds_of_wide 4 Tryz.f4 rfl rfl rfl rfl rfl rfl rfl ⟨rfl, rfl, rfl, rfl, rfl⟩ rfl rfl rfl rfl rfl (by kernel_rfl) Tryz.func4 (by kernel_rfl)
    (of_decide_eq_true (by kernel_rfl)) (by unfold Func.isWrapper; rw [if_neg (by decide +kernel)]; exact ⟨rfl, rfl⟩)
    (fun os started H enc _ => law_frame (C := Tryz.checked) (fn := Tryz.f4) (s := Rows.paxosMajoritySpec) (tb := 4) Tryz.own started (by kernel_rfl) Tryz.func4 Tryz.laidOut rfl (by kernel_rfl) Tryz.underlying4 (by kernel_rfl)
      (fun ds hd => by match ds, hd with | [_, _], _ => exact ⟨rfl, rfl, rfl⟩)
      (ChangeSpec.witness6 (enc := enc) (C := Tryz.checked) false ⟨#[], #[.int .u8 0, .slice none 0 0], []⟩ 8 (by kernel_rfl) (by kernel_rfl) (by kernel_rfl) (by kernel_rfl))
      (fun W base args ds p hval0 hA0 _ => by
        have hval : ∀ (j : Nat) t v, Tryz.f4.params[j]? = some t → args[j]? = some v → Value.okWide Tryz.prog W .any base t v := hval0
        have hA : DataW.TrodAll enc Tryz.prog W 0 (fun _ => true) true Tryz.f4.params.toList args.toList ds p := hA0
        rw [Tryz.params4] at hA hval
        obtain ⟨v0, v1, d0, d1, p0, p1, rfl, rfl, rfl, h0, h1⟩ := trodAll_two hA
        obtain ⟨x0, rfl, rfl, rfl, wx0⟩ := open_int Tryz.underlying5 (hval 0 5 v0 rfl rfl) h0
        obtain ⟨x1, hx1, wx1⟩ := arg_ints Tryz.underlying27 Tryz.underlying5 (by kernel_rfl) (hval 1 27 v1 rfl rfl) h1
        exact paxosMajority_walk wx0 hx1 wx1))

end Go.Proofs.YtgmdedkingampaaGreat
