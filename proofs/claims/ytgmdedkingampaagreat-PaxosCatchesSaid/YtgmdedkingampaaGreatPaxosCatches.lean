/-
  PaxosCatches: a node that missed values, and is told of them by no one but one that it asks, has them all before long. No conditions.
-/
import Derived.Test.YtgmdedkingampaaGreatPxZc
import Derived.Test.YtgmdedkingampaaGreatCatS
import Derived.Test.YtgmdedkingampaaGreatFrame
set_option linter.unusedVariables false
set_option linter.unusedSimpArgs false
namespace Go.Proofs.YtgmdedkingampaaGreat
open Go.ChangeShapes Go.WideShapes Go.ChangeAt Go.RowKit Go.Maps
set_option maxRecDepth 1000000

theorem Ph.known {V : List (List Int)} {n : Nat} {a b : Int} {ms0 ms : List (Int × Om)} {xs : List Nd} (h : Ph V n a b n ms0 xs ms) : xs.length = 3 ∧ ∀ x ∈ xs, x.kn = KnV V n := by
  obtain ⟨x0, x1, x2, rfl, h0, h1, h2, rfl⟩ := h
  refine ⟨rfl, fun x hx => ?_⟩
  simp at hx
  rcases hx with rfl | rfl | rfl
  · obtain ⟨A, L, k, _⟩ := h0; exact k.kn
  · obtain ⟨A, L, lf, top, k, _⟩ := h1; exact k.kn
  · obtain ⟨A, L, lf, top, k, _⟩ := h2; exact k.kn
theorem Ph.known0 {V : List (List Int)} {n j : Nat} {a b : Int} {ms0 ms : List (Int × Om)} {xs : List Nd} (h : Ph V n a b j ms0 xs ms) : xs.length = 3 := by
  obtain ⟨x0, x1, x2, rfl, _⟩ := h
  rfl
theorem vJ_deaf {V : List (List Int)} {j : Nat} {xs : List Nd} {ms : List (Int × Om)} {x : Nd} (h : vJ V true j xs ms) (hx : xs[2]? = some x) (hf : NdFacts x) : x.next = 0 := by
  obtain ⟨x0, x1, x2, rfl, h0, h1, h2, rfl⟩ := h
  cases hx
  exact Fo.nxt (V := V) (e := false) (k := 2) (m := 380) (c := 0) (j := 0) (l := 6) h2 (Nat.zero_le _) hf
set_option maxHeartbeats 4000000 in
theorem paxosCatches_walk {v0 : Value} {V : List (List Int)} {d : Bool} {W : World} (hv : RowsK W .u8 v0 V) (wv : ∀ r ∈ V, ∀ x ∈ r, (Lit.int .u8 x).wf = true) :
    Calls Tryz.prog 3 #[v0, .bool d] W fun e W' => e = .returned (.bool true) ∧ Below W.heap.size W W' := by
  simp [Lit.wf, IntKind.min, IntKind.max, IntKind.signed, IntKind.bits] at wv
  obtain ⟨vs, hvs, hvk⟩ := hv
  obtain ⟨bo, bc, hve, _, _⟩ := hvs.form
  have hvl : vs.length = V.length := hvk.1
  rw [hvl] at hve
  subst hve
  have HVs := Lib.hid hvs
  have HVk := Lib.hid hvk
  have HVl := Lib.hid hvl
  have HWv := Lib.hid wv
  have HAw := Lib.hid (awake_any W)
  clear hvs hvk hvl wv
  go_enter Tryz.func3, Tryz.ntmps3
  go_wp2_with fail
  refine HAw.out.mono ?_
  rintro e w1 ⟨rfl, hb1⟩
  have HB1 := Lib.hid hb1
  clear hb1 HAw
  by_cases hl : V.length ≤ 20
  rotate_left
  · have hli : (20 : Int) < (V.length : Int) := by omega
    go_wp2_with fail
    go_ret
    exact ⟨rfl, HB1.out⟩
  have hli : decide ((20 : Int) < (V.length : Int)) = false := decide_eq_false (by omega)
  have HMa := Lib.hid (cl_made ((SepW.nil (Below.refl W.heap.size W)).step HB1.out) (n := 3) (by decide))
  rw [show ((3 : Nat) : Int) = 3 from rfl] at HMa
  go_wp2_with fail
  refine HMa.out.mono ?_
  rintro e w2 ⟨c, dv, nv, qs, rfl, hc2, hq2⟩
  obtain ⟨gd, dc, gn, nc, rfl, rfl⟩ := hc2.vals (by show 0 < 3; decide)
  rw [show (newXs 3 3).length = 3 from rfl] at hc2
  have HC4 := Lib.hid (cat_calm4 V hc2)
  clear hc2 HMa hq2
  go_wp2_with fail
  refine HC4.out.mono ?_
  rintro e w3 ⟨rfl, xs3, ms3, hc3, hp3⟩
  have HC3 := Lib.hid hc3
  have HJ3 := Lib.hid (vJ_start hp3 d)
  clear hc3 hp3 HC4
  go_wp2_with fail
  go_loopw [7, 8, 9, 10] (fun jv _ _ _ wr => ∃ (j : Nat) (xs : List Nd) (ms : List (Int × Om)), j ≤ V.length ∧ jv = .int .i64 j ∧ Hid (Clu W wr [] c (.slice (some ⟨gd, 0, none⟩) 3 dc) (.slice (some ⟨gn, 0, none⟩) 3 nc) qs xs ms) ∧ Hid (vJ V d j xs ms) ∧ Hid (∀ v ∈ V.take j, v.length ≤ 30)) (fun jv _ _ _ _ => V.length - (intOf jv).toNat)
  case atStart => exact ⟨0, xs3, ms3, by omega, rfl, HC3, HJ3, Lib.hid (by simp)⟩
  case round =>
    clear HC3 HJ3
    obtain ⟨j, xs, ms, hj, rfl, hc, hjs, hle⟩ := hrel
    by_cases hlt : j < V.length
    · have hlt2 : (j : Int) < (V.length : Int) := by omega
      obtain ⟨v, hv⟩ : ∃ v, V[j]? = some v := ⟨_, List.getElem?_eq_getElem hlt⟩
      obtain ⟨u, hu⟩ : ∃ u, vs[j]? = some u := ⟨_, List.getElem?_eq_getElem (by rw [HVl.out]; exact hlt)⟩
      have hsu := HVk.out.2 j u v hu hv
      obtain ⟨uo, uc, rfl, _, _⟩ := hsu.form
      simp only [List.length_map] at *
      obtain ⟨aa, hau, hcm0⟩ := HVs.out.at' (m := j) hu
      subst hau
      have HCm0 := Lib.hid hcm0
      clear hcm0
      have hcm := (hc.out.below.cell (World.block_lt_of_cell? _ _ HCm0.out)).trans HCm0.out
      have HSu := Lib.hid hsu
      have HV := Lib.hid hv
      have HU8 : Hid (U8 v) := Lib.hid (HWv.out v (List.mem_of_getElem? hv))
      clear hsu hv hu
      by_cases hv30 : v.length ≤ 30
      rotate_left
      · have hvi : (30 : Int) < (v.length : Int) := by omega
        go_wp2_with fail
        go_ret
        exact ⟨rfl, hc.out.below⟩
      have hvi : decide ((30 : Int) < (v.length : Int)) = false := decide_eq_false (by omega)
      have HVj : Hid (Vj V j v) := Lib.hid ⟨HV.out, by omega, HU8.out, hv30⟩
      have hx3 : xs.length = 3 := by obtain ⟨x0, x1, x2, rfl, _⟩ := hjs.out; rfl
      obtain ⟨x, hx⟩ : ∃ x, xs[0]? = some x := ⟨_, List.getElem?_eq_getElem (by omega)⟩
      obtain ⟨q, hq, -, n0⟩ := hc.out.node hx
      obtain ⟨-, -, c2, -⟩ := hc.out.cells
      have HX := Lib.hid hx
      have HQ := Lib.hid hq
      have HLe : Hid (x.NL < 900000 ∧ x.ps.length ≤ 7) := by
        obtain ⟨x0, x1, x2, rfl, h0, _⟩ := hjs.out
        cases hx
        have := (h0.ok (by omega) (by omega) (fun v g e => by cases e)).1
        exact Lib.hid ⟨by have := this.NL; omega, this.ps⟩
      have HP := Lib.hid (clu_prop (hc.out.step (Below.refl _ _).drew) HX.out HQ.out (bv := .slice uo v.length uc) (bs := v) (Held.arg HSu.out) HU8.out (by omega) HLe.out.1 HLe.out.2)
      clear hx hq hx3
      go_wp2_with fail
      go_region_held3 (fun w' => w'.cell? ⟨c, 2, none⟩ = some (.slice (some ⟨gn, 0, none⟩) 3 nc) ∧ w'.cell? ⟨gn, 0, none⟩ = some (.pointer (some ⟨q.x, 0, none⟩)) ∧ w'.cell? (aa.add j) = some (.slice uo v.length uc)) (first | with_reducible exact hS8 | go_keep)
        (first
          | (go_at_call 11; (with_reducible refine HP.out.mono ?_); rintro e w8 ⟨vv, y, outs, er, rfl, hpr, hco⟩
             have hcc := hco.drop
             obtain ⟨-, -, c28, -⟩ := hcc.cells
             obtain ⟨q', hq', -, n08⟩ := hcc.node (k := 0) (x := y) (List.getElem?_set_self (List.getElem?_eq_some_iff.1 HX.out).1)
             rw [HQ.out] at hq'
             cases hq'
             have hc8 : w8.cell? (aa.add j) = some (.slice uo v.length uc) := (hcc.below.cell (World.block_lt_of_cell? _ _ HCm0.out)).trans HCm0.out
             have hS8 : w8.cell? ⟨c, 2, none⟩ = some (.slice (some ⟨gn, 0, none⟩) 3 nc) ∧ w8.cell? ⟨gn, 0, none⟩ = some (.pointer (some ⟨q.x, 0, none⟩)) ∧ w8.cell? (aa.add j) = some (.slice uo v.length uc) := ⟨c28, n08, hc8⟩
             have HCo := Lib.hid hco
             have HPr := Lib.hid hpr
             clear hco hpr hcc c28 n08 hc8)
          | fail)
      clear hS8 n0 c2 hcm HP
      have HJp := Lib.hid (vJ_prop HVj.out hjs.out HX.out HPr.out)
      obtain ⟨rfl, -, -⟩ := HJp.out
      obtain ⟨vo, vc, rfl⟩ := HCo.out.form
      have HSn := Lib.hid (clu_send HCo.out (by obtain ⟨x0, x1, x2, rfl, _, _, _, rfl⟩ := hjs.out; decide) 0)
      go_wp2_with fail
      refine HSn.out.mono ?_
      rintro e w9 ⟨rfl, hc9⟩
      have HC9 := Lib.hid hc9
      have HV0 : Hid (vS V j v d 0 (xs.set 0 y) (sendO 0 outs ms)) := Lib.hid HJp.out.2.1
      clear hc9 HSn HCo HPr HJp hc
      go_wp2_with fail
      go_loopw [10] (fun kv wr => ∃ (i : Nat) (xs : List Nd) (ms : List (Int × Om)), i ≤ 9 ∧ kv = .int .i64 i ∧ Hid (Clu W wr [] c (.slice (some ⟨gd, 0, none⟩) 3 dc) (.slice (some ⟨gn, 0, none⟩) 3 nc) qs xs ms) ∧ Hid (vS V j v d i xs ms)) (fun kv _ => 400 - (intOf kv).toNat)
      case atStart => exact ⟨0, _, _, by omega, rfl, HC9, HV0⟩
      case round =>
        clear HC9 HV0 hjs HX HQ HLe
        obtain ⟨i, xs, ms, hi9, rfl, hc, hvs⟩ := hrel
        have hok := (vS_ok HVj.out hvs.out).1
        have HOk := Lib.hid hok
        clear hok
        have hi4 : (i : Int) < 200 := by omega
        by_cases hm0 : ms = []
        · subst hm0
          obtain ⟨c0, -, c2, mo, mc, c3, hmc⟩ := hc.out.cells
          simp only [List.length_nil] at c3
          have HJn := Lib.hid (vS_end hvs.out (HVj.out.few))
          have HLn : Hid (∀ w ∈ V.take (j + 1), w.length ≤ 30) := Lib.hid (fun w hw => by
            obtain ⟨k, hk⟩ := List.getElem?_of_mem hw
            by_cases hkj : k < j
            · rw [List.getElem?_take_of_lt (by omega)] at hk
              exact hle.out w (List.mem_of_getElem? (by rw [List.getElem?_take_of_lt hkj]; exact hk))
            · have hk2 : k < j + 1 := by have := (List.getElem?_eq_some_iff.1 hk).1; rw [List.length_take] at this; omega
              rw [List.getElem?_take_of_lt hk2, show k = j by omega, HV.out] at hk
              cases hk
              exact HVj.out.ok.2)
          clear hvs HOk c0 c2
          go_wp2_with fail
          go_roundw
          case rel => exact ⟨j + 1, _, _, by omega, by go_num, hc, HJn, HLn⟩
          case measure => simp [intOf]; omega
        · have HDl := Lib.hid (clu_deliver hc.out HOk.out (by decide) 0 (by omega) false)
          rw [show ((0 : Nat) : Int) = 0 from rfl] at HDl
          obtain ⟨g, o, mc', c3', hmc1, hmc2, cf3, hto, hls⟩ := hc.out.lose hm0
          have hml : 0 < ms.length := List.length_pos_iff.2 hm0
          obtain ⟨p, hp⟩ : ∃ p, ms[0]? = some p := ⟨_, List.getElem?_eq_getElem hml⟩
          have d1 := hto 0 0 0 p hp
          have hz : decide ((0 : Int) < (ms.length : Int)) = true := decide_eq_true (by omega)
          have HP0 := Lib.hid hp
          have HLs := Lib.hid hls
          have HM0 := Lib.hid hm0
          clear hto hp hls hm0
          by_cases hdd : d = true ∧ p.2.dst = 2
          · obtain ⟨rfl, h2⟩ := hdd
            rw [h2] at d1
            have HVn := Lib.hid (vS_give hvs.out rfl HP0.out h2)
            have hi8 : Hid (i + 1 ≤ 9) := Lib.hid (vS_ok HVj.out HVn.out).2
            clear h2 HDl
            go_wp2_with fail
            go_roundw
            case rel => exact ⟨i + 1, _, _, hi8.out, by go_num, HLs, HVn⟩
            case measure => simp [intOf]; omega
          · have HDd : Hid (∀ xs' ms', DelR xs ms 0 false xs' ms' → vS V j v d (i + 1) xs' ms') := Lib.hid (fun xs' ms' hd => vS_step HVj.out hvs.out HM0.out (fun he q hq h2 => hdd ⟨he, by rw [HP0.out] at hq; cases hq; exact h2⟩) hc.out.facts hd)
            have hq2 : d = true → (p.2.dst == 2) = false := fun he => beq_eq_false_iff_ne.2 (fun h2 => hdd ⟨he, h2⟩)
            clear hdd
            cases d with
            | false =>
              clear hq2
              go_wp2_with fail
              refine HDl.out.mono ?_
              rintro e w4 ⟨rfl, xs', ms', hc4, hd4⟩
              have HC4 := Lib.hid hc4
              have HD4 := Lib.hid (HDd.out _ _ hd4)
              have hi8 : Hid (i + 1 ≤ 9) := Lib.hid (vS_ok HVj.out HD4.out).2
              clear hc4 HDl hd4
              go_wp2_with fail
              go_roundw
              case rel => exact ⟨i + 1, _, _, hi8.out, by go_num, HC4, HD4⟩
              case measure => simp [intOf]; omega
            | true =>
              have hq3 := hq2 rfl
              clear hq2
              go_wp2_with fail
              refine HDl.out.mono ?_
              rintro e w4 ⟨rfl, xs', ms', hc4, hd4⟩
              have HC4 := Lib.hid hc4
              have HD4 := Lib.hid (HDd.out _ _ hd4)
              have hi8 : Hid (i + 1 ≤ 9) := Lib.hid (vS_ok HVj.out HD4.out).2
              clear hc4 HDl hd4
              go_wp2_with fail
              go_roundw
              case rel => exact ⟨i + 1, _, _, hi8.out, by go_num, HC4, HD4⟩
              case measure => simp [intOf]; omega
    · have hje : j = V.length := by omega
      subst hje
      have hkd : decide ((V.length : Int) < (V.length : Int)) = false := decide_eq_false (by omega)
      have HVs2 : Hid (Vs V V.length) := Lib.hid ⟨Nat.le_refl _, hl, fun v hv => ⟨HWv.out v (List.mem_of_mem_take hv), hle.out v hv⟩⟩
      have HPh := Lib.hid (vJ_done hjs.out hl)
      have hx3 : xs.length = 3 := HPh.out.known0
      obtain ⟨x, hx⟩ : ∃ x, xs[2]? = some x := ⟨_, List.getElem?_eq_getElem (by omega)⟩
      obtain ⟨q, hq, -, n0⟩ := hc.out.node hx
      obtain ⟨-, -, c2, -⟩ := hc.out.cells
      have HNx := Lib.hid (clu_next hc.out hx hq)
      have HDf : Hid (d = true → x.next = 0) := Lib.hid (fun e => by subst e; exact vJ_deaf hjs.out hx (hc.out.facts x (List.mem_of_getElem? hx)))
      have HCa := Lib.hid (cat_lead (rounds := 6) (by decide) HVs2.out (by split <;> omega) hc.out HPh.out)
      rw [show ((6 : Nat) : Int) = 6 from rfl, show min V.length ((if d = true then 0 else V.length) + 8 * 6) = V.length by split <;> omega] at HCa
      clear hlt hj hx hq hjs HPh hle hx3
      go_upto_region 25 with fail
      go_cut [101] (fun s wx => s = .bool false ∧ wx = wr)
      case first =>
        clear HCa
        cases d with
        | false =>
          go_wp2_with fail
          go_meet
          exact ⟨rfl, rfl⟩
        | true =>
          rw [HDf.out rfl] at HNx
          go_wp2_with fail
          refine HNx.out.mono ?_
          rintro e w4 ⟨rfl, rfl⟩
          go_wp2_with fail
          go_meet
          exact ⟨rfl, rfl⟩
      case rest =>
      obtain ⟨rfl, rfl⟩ := hcut
      clear HNx HDf n0 c2
      as_aux_lemma =>
        clear hc
        go_wp2_with fail
        refine HCa.out.mono ?_
        rintro e w4 ⟨rfl, xs6, ms6, hc6, hp6⟩
        have HC6 := Lib.hid hc6
        have HK6 := Lib.hid hp6.known
        clear hc6 hp6 HCa
        go_wp2_with fail
        go_loopw [12, 13, 14, 15] (fun iv _ _ _ wr => ∃ i : Nat, i ≤ 3 ∧ iv = .int .i64 i ∧ Hid (Clu W wr [] c (.slice (some ⟨gd, 0, none⟩) 3 dc) (.slice (some ⟨gn, 0, none⟩) 3 nc) qs xs6 ms6)) (fun iv _ _ _ _ => 3 - (intOf iv).toNat)
        case atStart => exact ⟨0, by omega, rfl, HC6⟩
        case round =>
          clear HC6
          obtain ⟨i, hi, rfl, hc⟩ := hrel
          by_cases hi3 : i < 3
          · have hi4 : (i : Int) < 3 := by omega
            obtain ⟨x, hx⟩ : ∃ x, xs6[i]? = some x := ⟨_, List.getElem?_eq_getElem (by rw [HK6.out.1]; omega)⟩
            have hkn : x.kn = KnV V V.length := HK6.out.2 x (List.mem_of_getElem? hx)
            have hnx : x.next = V.length := by
              have h1 := (hc.out.facts x (List.mem_of_getElem? hx)).nx
              rw [hkn] at h1
              exact h1.unique (KnV_next (Nat.le_refl _))
            obtain ⟨q, hq, -, n0⟩ := hc.out.node hx
            obtain ⟨-, -, c2, -⟩ := hc.out.cells
            have HNx := Lib.hid (clu_next hc.out hx hq)
            rw [hnx] at HNx
            have HX := Lib.hid hx
            have HQ := Lib.hid hq
            have HKn := Lib.hid hkn
            clear hx hq hkn hnx
            go_wp2_with fail
            refine HNx.out.mono ?_
            rintro e w5 ⟨rfl, rfl⟩
            clear HNx
            go_wp2_with fail
            clear n0 c2
            go_loopw [13, 14, 15] (fun sv _ _ wr => ∃ s : Nat, s ≤ V.length ∧ sv = .int .u64 s ∧ Hid (Clu W wr [] c (.slice (some ⟨gd, 0, none⟩) 3 dc) (.slice (some ⟨gn, 0, none⟩) 3 nc) qs xs6 ms6)) (fun sv _ _ _ => V.length - (intOf sv).toNat)
            case atStart => exact ⟨0, by omega, rfl, hc⟩
            case round =>
              clear hc
              obtain ⟨s, hs, rfl, hc⟩ := hrel
              by_cases hsl : s < V.length
              · have hsl2 : (s : Int) < (V.length : Int) := by omega
                obtain ⟨q', hq', -, n0⟩ := hc.out.node HX.out
                rw [HQ.out] at hq'
                cases hq'
                obtain ⟨-, -, c2, -⟩ := hc.out.cells
                have HVa := Lib.hid (clu_value hc.out HX.out HQ.out (s := (s : Int)) (by unfold U1; omega))
                obtain ⟨v, hv⟩ : ∃ v, V[s]? = some v := ⟨_, List.getElem?_eq_getElem hsl⟩
                rw [HKn.out, KnV_some V hsl, hv] at HVa
                have HV := Lib.hid hv
                clear hv
                go_wp2_with fail
                refine HVa.out.mono ?_
                rintro e w6 ⟨vv, rfl, hsv, hc6, hb6⟩
                obtain ⟨uo, uc, rfl, -, -⟩ := hsv.form
                simp only [List.length_map] at hsv ⊢
                obtain ⟨u, hu⟩ : ∃ u, vs[s]? = some u := ⟨_, List.getElem?_eq_getElem (by rw [HVl.out]; exact hsl)⟩
                have hsu := HVk.out.2 s u v hu HV.out
                obtain ⟨wo, wc, rfl, _, _⟩ := hsu.form
                simp only [List.length_map] at *
                obtain ⟨ab, hau, hcm0⟩ := HVs.out.at' (m := s) hu
                subst hau
                have hcm := (hc6.below.cell (World.block_lt_of_cell? _ _ hcm0)).trans hcm0
                have hcv1 : (convert 27 9 (.slice uo v.length uc)).run Tryz.prog w6 = .ok (.string (strB v)) w6 := run_strB (P := Tryz.prog) (src := 27) (dst := 9) Tryz.underlying27 Tryz.underlying5 Tryz.underlying9 hsv
                have hcv2 : (convert 27 9 (.slice wo v.length wc)).run Tryz.prog w6 = .ok (.string (strB v)) w6 := run_strB (P := Tryz.prog) (src := 27) (dst := 9) Tryz.underlying27 Tryz.underlying5 Tryz.underlying9 (hsu.below hc6.below (Nat.le_refl _))
                have HC6 := Lib.hid hc6
                have hcv3 : (convert 27 9 (.slice uo v.length uc)).run Tryz.prog w6.drew = .ok (.string (strB v)) w6.drew := run_strB (P := Tryz.prog) (src := 27) (dst := 9) Tryz.underlying27 Tryz.underlying5 Tryz.underlying9 (hsv.below (Below.refl w6.heap.size w6).drew (Nat.le_refl _))
                have hcv4 : (convert 27 9 (.slice wo v.length wc)).run Tryz.prog w6.drew = .ok (.string (strB v)) w6.drew := run_strB (P := Tryz.prog) (src := 27) (dst := 9) Tryz.underlying27 Tryz.underlying5 Tryz.underlying9 (hsu.below hc6.below.drew (Nat.le_refl _))
                clear hu hsu hsv hb6 hc6 hcm0 HVa n0 c2 hc
                go_wp2_with fail
                go_region_held3 (fun w' => w'.cell? (ab.add s) = some (.slice wo v.length wc) ∧ (convert 27 9 (.slice uo v.length uc)).run Tryz.prog w' = .ok (.string (strB v)) w' ∧ (convert 27 9 (.slice wo v.length wc)).run Tryz.prog w' = .ok (.string (strB v)) w') (first | go_keep | exact hcv3 | exact hcv4 | exact hcv1 | exact hcv2) (first | fail)
                clear hcv1 hcv2 hcv3 hcv4 hcm
                go_wp2_with fail
                go_roundw
                case rel => exact ⟨s + 1, by omega, by go_num, Lib.hid (HC6.out.step (Below.refl _ _).drew)⟩
                case measure => simp [intOf]; omega
              · have hse : s = V.length := by omega
                subst hse
                have hkd : decide ((V.length : Int) < (V.length : Int)) = false := decide_eq_false (by omega)
                clear hsl hs
                go_wp2_with fail
                go_roundw
                case rel => exact ⟨i + 1, by omega, by go_num, hc⟩
                case measure => simp [intOf]; omega
          · have hie : i = 3 := by omega
            subst hie
            go_wp2_with fail
            go_ret
            exact ⟨rfl, hc.out.below⟩
theorem paxosCatches_holds : Rows.PaxosCatchesSaid :=
  OpenClaim.holds_of_wide 3 Tryz.f3 rfl rfl rfl rfl rfl rfl rfl ⟨rfl, rfl, rfl, rfl, rfl⟩ rfl rfl rfl rfl rfl (by kernel_rfl) Tryz.func3 (by kernel_rfl)
    (of_decide_eq_true (by kernel_rfl)) (by unfold Func.isWrapper; rw [if_neg (by decide +kernel)]; exact ⟨rfl, rfl⟩)
    (fun os started H enc _ => law_frame (C := Tryz.checked) (fn := Tryz.f3) (s := Rows.paxosCatchesSpec) (tb := 4) Tryz.own started (by kernel_rfl) Tryz.func3 Tryz.laidOut rfl (by kernel_rfl) Tryz.underlying4 (by kernel_rfl)
      (fun ds hd => by match ds, hd with | [_, _], _ => exact ⟨rfl, rfl, rfl⟩)
      (ChangeSpec.witness6 (enc := enc) (C := Tryz.checked) false ⟨#[], #[.slice none 0 0, .bool false], []⟩ 8 (by kernel_rfl) (by kernel_rfl) (by kernel_rfl) (by kernel_rfl))
      (fun W base args ds p hval0 hA0 _ => by
        have hval : ∀ (j : Nat) t v, Tryz.f3.params[j]? = some t → args[j]? = some v → Value.okWide Tryz.prog W .any base t v := hval0
        have hA : DataW.TrodAll enc Tryz.prog W 0 (fun _ => true) true Tryz.f3.params.toList args.toList ds p := hA0
        rw [Tryz.params3] at hA hval
        obtain ⟨v0, v1, d0, d1, p0, p1, rfl, rfl, rfl, h0, h1⟩ := trodAll_two hA
        obtain ⟨x0, hx0, wx0⟩ := arg_rowsK Tryz.underlying22 Tryz.underlying27 Tryz.underlying5 (by kernel_rfl) (by kernel_rfl) (hval 0 22 v0 rfl rfl) h0
        obtain ⟨x1, rfl, rfl, rfl⟩ := open_bool Tryz.underlying4 (hval 1 4 v1 rfl rfl) h1
        exact paxosCatches_walk hx0 wx0))

end Go.Proofs.YtgmdedkingampaaGreat
