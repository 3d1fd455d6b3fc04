/-
  AcceptorVotes: votes as bytes, and the votes of any bytes, are the document's. No condition: every input.
-/
import Derived.Test.YtjdjfhioobhcjaaRefG
import Derived.Test.YtjdjfhioobhcjaaRefP
import Derived.Test.YtjdjfhioobhcjaaAccA
import Derived.Test.YtjdjfhioobhcjaaAccU
import Derived.Test.YtjdjfhioobhcjaaFrame
namespace Go.Proofs.Ytjdjfhioobhcjaa
open Go.ChangeShapes Go.WideShapes Go.ChangeAt Go.RowKit Go.Maps
set_option maxRecDepth 100000

theorem VtL.mono {w : World} {v : Value} {L : List Vt} (h : VtL w v L) : ∃ ao c, v = .slice ao L.length c ∧ L.length ≤ c ∧ c ≤ 9223372036854775807 := by obtain ⟨ao, c, e, h1, h2, _⟩ := h; exact ⟨ao, c, e, h1, h2⟩
theorem getL_val : ∀ (n : Nat) (r : RS) (out : List Vt), U8 r.b → r.b.length ≤ 1000000 → (∀ v ∈ out, U1 v.slot ∧ U1 v.ballot ∧ U8 v.val ∧ v.val.length ≤ 1000000000) → out.length + r.b.length ≤ 1000000 →
    (∀ v ∈ (getL n r out).2, U1 v.slot ∧ U1 v.ballot ∧ U8 v.val ∧ v.val.length ≤ 1000000000) ∧ (getL n r out).2.length ≤ 1000000
  | 0, r, out, h8, hl, ho, hs => by
    show (∀ v ∈ (if rEnd r ≠ 0 then (rEnd r, []) else (0, out) : Int × List Vt).2, _) ∧ (if rEnd r ≠ 0 then (rEnd r, []) else (0, out) : Int × List Vt).2.length ≤ _
    split
    · simp
    · exact ⟨ho, by simp; omega⟩
  | n + 1, r, out, h8, hl, ho, hs => by
    by_cases h1 : (rU r).1.e = 0
    · by_cases h2 : notAbove out (rU r).2 = true
      · rw [getL_two h1 h2]; simp
      · have h2' : notAbove out (rU r).2 = false := by simpa using h2
        by_cases h3 : (rB (32768 : Nat) (rU (rU r).1).1).1.e = 0
        · rw [getL_four h1 h2' h3]
          have b1 := rU_b8 h8 (by omega)
          have b2 := rU_b8 b1.1 b1.2
          have l1 := rU_less h1
          have l2 := rU_le (rU r).1
          have l3 := (rB_less h3).1
          have b3 := rB_b8 (m := (32768 : Nat)) b2.1 b2.2
          have v1 := rU_bd h8 (by omega)
          have v2 := rU_bd b1.1 b1.2
          have v3 := rB_val (m := (32768 : Nat)) b2.1 b2.2
          refine getL_val n _ _ b3.1 (by omega) (fun v hv => ?_) (by rw [List.length_append, List.length_singleton]; omega)
          rcases List.mem_append.1 hv with hv | hv
          · exact ho v hv
          · rw [List.mem_singleton.1 hv]
            exact ⟨v1, v2, v3.1, v3.2⟩
        · rw [getL_three h1 h2' h3]; simp
    · rw [getL_one h1]; simp
theorem getV_val {b : List Int} (h8 : U8 b) (hl : b.length ≤ 1000000) : (∀ v ∈ (getV b).2, U1 v.slot ∧ U1 v.ballot ∧ U8 v.val ∧ v.val.length ≤ 1000000000) ∧ (getV b).2.length ≤ 1000000 := by
  have b1 := rU_b8 (r := ⟨b, 0⟩) h8 (by show b.length ≤ 1000000000; omega)
  have l1 := rU_le ⟨b, 0⟩
  exact getL_val _ _ _ b1.1 (Nat.le_trans l1 hl) (by intro v hv; cases hv) (by simp; exact Nat.le_trans l1 hl)
theorem SepW.chain1 {W w w' : World} {os : List Ob} (h : SepW W w os) {o : Ob} (k : SepW w w' [o]) : SepW W w' (o :: os) :=
  h.new k.below (k.sep.good o (by simp)) (k.sep.inv o (by simp)) (fun x hx => k.sep.base o (by simp) x hx)
set_option maxHeartbeats 4000000 in
theorem acceptorVotes_walk {W : World} {v0 v1 : Value} {L : List Vt} {b : List Int} (h0 : VtL W v0 L) (w0 : ∀ x ∈ L, VtW x) (h1 : SlR W v1 (u8s b)) (w1 : ∀ x ∈ b, (Lit.int .u8 x).wf = true) :
    Calls Try.prog 13 #[v0, v1] W fun e W' => e = .returned (.bool true) ∧ Below W.heap.size W W' := by
  have h8 := u8_of_wf w1
  have H0 := Lib.hid h0
  have H1 := Lib.hid h1
  have HW := Lib.hid w0
  have H8 := Lib.hid h8
  obtain ⟨ao, ac, rfl, hac, ham, hax⟩ := h0
  obtain ⟨bo, bc, rfl, hbc, hbm⟩ := h1.form
  simp only [List.length_map] at H1 hbc ⊢
  have HX := Lib.hid hax
  clear h1 w0 w1 h8 hax
  go_enter Try.func13, Try.ntmps13
  go_wp2_with fail
  refine (aawake_any W).mono ?_
  rintro e w1 ⟨rfl, hb1⟩
  have HS1 := Lib.hid (SepW.nil hb1)
  clear hb1
  by_cases hbig : L.length ≤ 20 ∧ b.length ≤ 300
  · obtain ⟨hL, hB⟩ := hbig
    have d1 : decide ((20 : Int) < (L.length : Int)) = false := decide_eq_false (by omega)
    have d2 : decide ((300 : Int) < (b.length : Int)) = false := decide_eq_false (by omega)
    go_wp2_with fail
    go_loop [6] (fun i => ∃ k : Nat, k ≤ L.length ∧ i = .int .i64 k ∧ ∀ (j : Nat) (v : Vt), j < k → L[j]? = some v → v.val.length ≤ 60) (fun i => L.length - (intOf i).toNat)
    case atStart => exact ⟨0, by omega, rfl, fun j v hj => by omega⟩
    case round =>
      obtain ⟨k, hk, rfl, hsm⟩ := hrel
      have HSm := Lib.hid hsm
      clear hsm
      by_cases hlt : k < L.length
      · have hki : (k : Int) < (L.length : Int) := by omega
        obtain ⟨s, hsk⟩ : ∃ s, L[k]? = some s := ⟨_, List.getElem?_eq_getElem hlt⟩
        obtain ⟨a, sv, rfl, c0, c1, c2, hsl⟩ := HX.out k s hsk
        obtain ⟨so, sc, rfl, g1, g2⟩ := hsl.form
        simp only [List.length_map] at c2 g1
        have e2 := (HS1.out.below.cell (World.block_lt_of_cell? _ _ c2)).trans c2
        have HK := Lib.hid hsk
        clear hsk c0 c1 c2 hsl
        by_cases h60 : s.val.length ≤ 60
        · have d3 : decide ((60 : Int) < (s.val.length : Int)) = false := decide_eq_false (by omega)
          go_wp2_with fail
          go_round
          case rel => exact ⟨k + 1, by omega, by go_num, fun j v hj hv => by
            by_cases e : j = k
            · subst e; rw [HK.out] at hv; cases hv; exact h60
            · exact HSm.out j v (by omega) hv⟩
          case measure => simp [intOf]; omega
        · have d3 : (60 : Int) < (s.val.length : Int) := by omega
          go_wp2_with fail
          go_ret
          exact ⟨rfl, HS1.out.below⟩
      · have hkd : decide ((k : Int) < (L.length : Int)) = false := decide_eq_false (by omega)
        have hkl : k = L.length := by omega
        have HM : Hid (∀ v ∈ L, v.val.length ≤ 60) := Lib.hid (fun v hv => by
          obtain ⟨j, hj⟩ := List.getElem?_of_mem hv
          exact HSm.out j v (by have := (List.getElem?_eq_some_iff.1 hj).1; omega) hj)
        have HUL : Hid (∀ s ∈ L, U1 s.slot ∧ U1 s.ballot) := Lib.hid (fun s hs => ⟨(HW.out s hs).1, (HW.out s hs).2.1⟩)
        have HM5 : Hid (∀ s ∈ L, s.val.length ≤ 100000) := Lib.hid (fun v hv => by have := HM.out v hv; omega)
        have hpl : (putV L).length ≤ 10000 := by
          have h1 := putVs_len HM.out
          have h2 := sz_le (L.length : Int)
          unfold putV
          rw [List.length_append, putU_len]
          have h3 : L.length * (27 + 60) ≤ 20 * (27 + 60) := Nat.mul_le_mul_right _ hL
          omega
        have HP8 : Hid (U8 (putV L)) := Lib.hid (putV_U8 (fun v hv => (HW.out v hv).2.2))
        obtain ⟨hgbv, hgbl⟩ := getV_val H8.out (by omega : b.length ≤ 1000000)
        obtain ⟨hgpv, hgpl⟩ := getV_val HP8.out (by omega : (putV L).length ≤ 1000000)
        clear hkl hgbv hgpv HSm
        have HG1 := Lib.hid (get_any (H1.out.below HS1.out.below (Nat.le_refl _)) H8.out (by omega))
        have HG2 := fun w => Lib.hid (rget_any H8.out (by omega) w)
        have HG4 := fun (w : World) (v : Value) (h : SlR w v (u8s (putV L))) => Lib.hid (get_any h HP8.out (by omega))
        have HG5 := fun w => Lib.hid (rget_any HP8.out (by omega) w)
        have HG4 := Lib.hid HG4
        generalize getV b = gb at *
        generalize getV (putV L) = gp at *
        obtain ⟨gb1, gb2⟩ := gb
        obtain ⟨gp1, gp2⟩ := gp
        unfold RetGet at HG1 HG4
        unfold RetRG at HG2 HG5
        simp only at HG1 HG2 HG4 HG5 hgbl hgpl
        go_wp2_with fail
        refine HG1.out.mono ?_
        rintro e w2 ⟨mo, mc, mvs, rfl, hs2⟩
        have HS2 := Lib.hid (HS1.out.chain1 hs2)
        have rc : (convert 30 9 (.slice bo b.length bc)).run Try.prog w2 = .ok (.string (strB b)) w2 := run_strB Try.underlying30 Try.underlying5 Try.underlying9 (H1.out.below HS2.out.below (Nat.le_refl _))
        clear hs2 HG1
        go_wp2_with fail
        refine (HG2 _).out.mono ?_
        rintro e w3 ⟨wo, wc, rfl, hs3⟩
        have HS3 := Lib.hid (HS2.out.chain1 hs3)
        clear hs3 HG2 rc
        go_wp2_with fail
        refine (put_any (H0.out.below HS3.out.below (Nat.le_refl _)) HUL.out (by omega) HM5.out).mono ?_
        rintro e w4 ⟨po, pc, rfl, ho4, hb4⟩
        have HS4 := Lib.hid (HS3.out.newRow ho4 hb4)
        clear ho4 hb4
        go_wp2_with fail
        refine (HG4.out _ _ (HS4.out.row 0 rfl)).out.mono ?_
        rintro e w5 ⟨xo, xc, xvs, rfl, hs5⟩
        have HS5 := Lib.hid (HS4.out.chain1 hs5)
        clear hs5 HG4
        go_wp2_with fail
        refine (votes_any (H0.out.below HS5.out.below (Nat.le_refl _)) (by omega)).mono ?_
        rintro e w6 ⟨lo, lc, rfl, ho6, hb6⟩
        have HS6 := Lib.hid (HS5.out.newRef ho6 hb6)
        clear ho6 hb6
        go_wp2_with fail
        refine (rput_any (HS6.out.refL 0 rfl) HUL.out (by omega) HM5.out).mono ?_
        rintro e w7 ⟨rfl, hb7⟩
        have HS7 := Lib.hid (HS6.out.step hb7)
        clear hb7
        go_wp2_with fail
        refine (HG5 _).out.mono ?_
        rintro e w8 ⟨yo, yc, rfl, hs8⟩
        have HS8 := Lib.hid (HS7.out.chain1 hs8)
        clear hs8 HG5
        have hcv : ∀ w', SlR w' (.slice po (putV L).length pc) (u8s (putV L)) → (convert 30 9 (.slice po (putV L).length pc)).run Try.prog w' = .ok (.string (strB (putV L))) w' := fun w' h => run_strB Try.underlying30 Try.underlying5 Try.underlying9 h
        have HCv := Lib.hid hcv
        have hcx := hcv _ (HS8.out.drew.row 3 rfl)
        clear hcv
        have g1 : (gb1 == gb1) = true := beq_self_eq_true gb1
        have g2 : (gp1 == gp1) = true := beq_self_eq_true gp1
        go_wp2_with fail
        go_region_held3 (fun w' => (convert 30 9 (.slice po (putV L).length pc)).run Try.prog w' = .ok (.string (strB (putV L))) w') (first | go_keep)
          (first
            | (go_at_call 24; (with_reducible refine ((HS8.out.drew).votes 5 rfl hgbl).mono ?_); rintro e w9 ⟨qo, qc, rfl, hs9⟩; have HS9 := Lib.hid hs9; have hc9 := HCv.out _ (HS9.out.row 4 rfl); clear hs9)
            | (go_at_call 23; (with_reducible refine (HS9.out.same 0 5 rfl rfl).mono ?_); rintro e w10 ⟨rfl, hs10⟩; have HS10 := Lib.hid hs10; have hc10 := HCv.out _ (HS10.out.row 4 rfl); clear hs10)
            | (go_at_call 24; (with_reducible refine (votes_any (H0.out.below HS10.out.below (Nat.le_refl _)) (by omega)).mono ?_); rintro e w11 ⟨ro, rc, rfl, ho11, hb11⟩; have HS11 := Lib.hid (HS10.out.newRef ho11 hb11); have hc11 := HCv.out _ (HS11.out.row 5 rfl); clear ho11 hb11)
            | (go_at_call 50; (with_reducible refine (rput_any (HS11.out.refL 0 rfl) HUL.out (by omega) HM5.out).mono ?_); rintro e w12 ⟨rfl, hb12⟩; have HS12 := Lib.hid (HS11.out.step hb12); have hc12 := HCv.out _ (HS12.out.row 5 rfl); clear hb12)
            | (go_at_call 24; (with_reducible refine (HS12.out.votes 4 rfl hgpl).mono ?_); rintro e w13 ⟨so2, sc2, rfl, hs13⟩; have HS13 := Lib.hid hs13; have hc13 := HCv.out _ (HS13.out.row 6 rfl); clear hs13)
            | (go_at_call 23; (with_reducible refine (HS13.out.same 0 3 rfl rfl).mono ?_); rintro e w14 ⟨rfl, hs14⟩; have HS14 := Lib.hid hs14; have hc14 := HCv.out _ (HS14.out.row 6 rfl); clear hs14))
        go_wp2_with fail
        go_ret
        exact ⟨rfl, HS14.out.below⟩
  · rcases Nat.lt_or_ge 20 L.length with h20 | h20
    · have d1 : decide ((20 : Int) < (L.length : Int)) = true := decide_eq_true (by omega)
      go_wp2_with fail
      go_ret
      exact ⟨rfl, HS1.out.below⟩
    · have d1 : decide ((20 : Int) < (L.length : Int)) = false := decide_eq_false (by omega)
      have d2 : decide ((300 : Int) < (b.length : Int)) = true := decide_eq_true (by omega)
      go_wp2_with fail
      go_ret
      exact ⟨rfl, HS1.out.below⟩
theorem acceptorVotes_holds : Rows.AcceptorVotesSaid :=
  OpenClaim.holds_of_wide 13 Try.f13 rfl rfl rfl rfl rfl rfl rfl ⟨rfl, rfl, rfl, rfl, rfl⟩ rfl rfl rfl rfl rfl (by kernel_rfl) Try.func13 (by kernel_rfl)
    (of_decide_eq_true (by kernel_rfl)) (by unfold Func.isWrapper; rw [if_neg (by decide +kernel)]; exact ⟨rfl, rfl⟩)
    (fun os started H enc _ => law_frame (C := Try.checked) (fn := Try.f13) (s := Rows.acceptorVotesSpec) (tb := 4) Try.own started (by kernel_rfl) Try.func13 Try.laidOut rfl (by kernel_rfl) Try.underlying4 (by kernel_rfl)
      (fun ds hd => by match ds, hd with | [_, _], _ => exact ⟨rfl, rfl, rfl⟩)
      (ChangeSpec.witness6 (enc := enc) (C := Try.checked) false ⟨#[], #[.slice none 0 0, .slice none 0 0], []⟩ 8 (by kernel_rfl) (by kernel_rfl) (by kernel_rfl) (by kernel_rfl))
      (fun W base args ds p hval0 hA0 _ => by
        have hval : ∀ (j : Nat) t v, Try.f13.params[j]? = some t → args[j]? = some v → Value.okWide Try.prog W .any base t v := hval0
        have hA : DataW.TrodAll enc Try.prog W 0 (fun _ => true) true Try.f13.params.toList args.toList ds p := hA0
        rw [Try.params13] at hA hval
        obtain ⟨v0, v1, d0, d1, p0, p1, rfl, rfl, rfl, h0, h1⟩ := trodAll_two hA
        obtain ⟨x0, hx0, wx0⟩ := Try.vt_open (hval 0 33 v0 rfl rfl) h0
        obtain ⟨x1, hx1, wx1⟩ := arg_ints Try.underlying30 Try.underlying5 (by kernel_rfl) (hval 1 30 v1 rfl rfl) h1
        exact acceptorVotes_walk hx0 wx0 hx1 wx1))

end Go.Proofs.Ytjdjfhioobhcjaa
