/-
  AcceptorForgets: of any slots voted for, any slot up to which is given up: what was given up is told no more, and can't be voted for; the rest stays. No condition: every input.
-/
import Derived.Test.YtjdjfhioobhcjaaAccL
import Derived.Test.YtjdjfhioobhcjaaFrame
namespace Go.Proofs.Ytjdjfhioobhcjaa
open Go.ChangeShapes Go.WideShapes Go.ChangeAt Go.RowKit Go.Maps
set_option maxRecDepth 100000

/-- The votes behind i of the slots. -/
def voteF (xs : List Int) (i : Nat) (a : Int) : Option Vt := if hasF xs i a then some ⟨a, 3, [a]⟩ else none
def stF (xs : List Int) (i : Nat) : AS := ⟨if i = 0 then 0 else 3, 0, voteF xs i⟩
theorem stF_step {xs : List Int} {i : Nat} {x : Int} (h : xs[i]? = some x) : accE (stF xs i) ⟨x % 16, 3, [x % 16]⟩ = 0 ∧ accR (stF xs i) ⟨x % 16, 3, [x % 16]⟩ = stF xs (i + 1) := by
  have e : accE (stF xs i) ⟨x % 16, 3, [x % 16]⟩ = 0 := by
    unfold accE stF
    simp only
    rw [if_neg (by split <;> omega), if_neg (by omega)]
  refine ⟨e, ?_⟩
  unfold accR
  rw [if_pos e]
  unfold putA stF
  simp only
  rw [if_neg (by omega : ¬ i + 1 = 0)]
  congr 1
  funext a
  unfold voteF
  rw [hasF_succ h]
  by_cases ea : a = x % 16
  · subst ea; simp
  · rw [if_neg ea]; simp [ea]
/-- Behind what was given up. -/
def gvF (xs : List Int) (n : Int) (a : Int) : Option Vt := if a < n then none else voteF xs xs.length a
def stG (xs : List Int) (p n : Int) : AS := ⟨p, n, gvF xs n⟩
theorem stG_of (xs : List Int) {n : Int} (hn : 0 ≤ n) : forgA (stF xs xs.length) n = stG xs (stF xs xs.length).promised n := by
  unfold forgA
  have hl : (stF xs xs.length).low = 0 := rfl
  rw [hl]
  have hg : n = 0 → gvF xs n = voteF xs xs.length := fun h0 => by
    subst h0
    funext a
    unfold gvF
    by_cases ha : a < 0
    · rw [if_pos ha]
      unfold voteF
      cases hh : hasF xs xs.length a
      · rfl
      · have := hasF_le hh; omega
    · rw [if_neg ha]
  by_cases h : n ≤ 0
  · have h0 : n = 0 := by omega
    rw [if_pos h]
    unfold stG stF
    rw [hg h0, h0]
  · rw [if_neg h]; rfl
theorem stG_half (xs : List Int) {p n : Int} (hn : 0 ≤ n) : forgA (stG xs p n) (n / 2) = stG xs p n := by
  unfold forgA
  rw [if_pos (by show n / 2 ≤ n; omega)]
/-- The votes that are told. -/
def pF (xs : List Int) (n : Int) (k : Nat) : Bool := hasF xs xs.length (k : Int) && decide (n ≤ (k : Int))
def nF (xs : List Int) (n : Int) (k : Nat) : Nat := ((List.range k).filter (pF xs n)).length
theorem told_F {xs : List Int} {n : Int} {ks : List Int} (h : IsKeys (gvF xs n) ks) : votL (gvF xs n) ks 0 = ((List.range 16).filter (pF xs n)).map (fun (k : Nat) => (⟨(k : Int), 3, [(k : Int)]⟩ : Vt)) := by
  rw [votL_range (M := 16) h (fun x hx => by
    unfold gvF voteF at hx
    split at hx
    · cases hx
    · split at hx
      · rename_i hh; exact hasF_le hh
      · cases hx)]
  have e1 : ∀ k : Nat, ((gvF xs n (k : Int)).isSome && decide ((0 : Int) ≤ (k : Int))) = pF xs n k := fun k => by
    unfold gvF voteF pF
    by_cases hk : (k : Int) < n
    · rw [if_pos hk]; simp; intro _; omega
    · rw [if_neg hk]
      cases hh : hasF xs xs.length (k : Int) <;> simp <;> omega
  simp only [e1]
  refine List.map_congr_left fun k hk => ?_
  have hp := (List.mem_filter.1 hk).2
  unfold pF at hp
  simp only [Bool.and_eq_true, decide_eq_true_eq] at hp
  unfold gvF voteF
  rw [if_neg (by omega), if_pos hp.1]; rfl
theorem told_at {xs : List Int} {n : Int} {k : Nat} (hk : k < 16) (hp : pF xs n k = true) : (((List.range 16).filter (pF xs n)).map (fun (k : Nat) => (⟨(k : Int), 3, [(k : Int)]⟩ : Vt)))[nF xs n k]? = some ⟨(k : Int), 3, [(k : Int)]⟩ := by
  rw [List.getElem?_map, nF, filter_at _ hk hp]; rfl
theorem told_len (xs : List Int) (n : Int) : (((List.range 16).filter (pF xs n)).map (fun (k : Nat) => (⟨(k : Int), 3, [(k : Int)]⟩ : Vt))).length = nF xs n 16 := by rw [List.length_map]; rfl
theorem told_lt {xs : List Int} {n : Int} {k : Nat} (hk : k < 16) (hp : pF xs n k = true) : nF xs n k < nF xs n 16 := by
  have := (List.getElem?_eq_some_iff.1 (told_at hk hp)).1
  rwa [told_len] at this
theorem nF_le (xs : List Int) (n : Int) (k : Nat) : nF xs n k ≤ k := by
  unfold nF
  have := List.length_filter_le (pF xs n) (List.range k)
  simpa using this

theorem Try.boolInfo : (Try.prog.info? 4).map (fun i => (i.zero, i.size, i.bytes)) = some (some (.bool false), 1, 1) := by kernel_rfl
set_option maxHeartbeats 4000000 in
theorem acceptorForgets_walk {W : World} {v0 : Value} {xs : List Int} {lo : Int} (h0 : SlR W v0 (u8s xs)) (w0 : ∀ x ∈ xs, (Lit.int .u8 x).wf = true) (wl : (Lit.int .u8 lo).wf = true) :
    Calls Try.prog 5 #[v0, .int .u8 lo] W fun e W' => e = .returned (.bool true) ∧ Below W.heap.size W W' := by
  simp [Lit.wf, IntKind.min, IntKind.max, IntKind.signed, IntKind.bits] at wl
  have HU := Lib.hid (u8_of_wf w0)
  have H0 := Lib.hid h0
  obtain ⟨j0, hj, hy0, hy1, hy2⟩ := info_parts Try.boolInfo
  obtain ⟨ao, ac, rfl, hac, ham⟩ := h0.form
  simp only [List.length_map] at *
  clear h0 w0
  by_cases hlen : xs.length ≤ 30
  rotate_left
  · have hli : (30 : Int) < (xs.length : Int) := by omega
    go_enter Try.func5, Try.ntmps5
    go_wp2_with fail
    refine (aawake_any W).mono ?_
    rintro e w1 ⟨rfl, hb1⟩
    have HB1 := Lib.hid hb1
    clear hb1
    go_wp2_with fail
    go_ret
    exact ⟨rfl, HB1.out⟩
  · have hli : decide ((30 : Int) < (xs.length : Int)) = false := decide_eq_false (by omega)
    have hmk : ∀ w : World, (Instr.makeSlice 28 (.int .i64 16) (.int .i64 16)).run Try.prog w = Result.ok (.slice (some ⟨w.heap.size, 0, none⟩) 16 16) (w.alloc (.cells (madeCells #[.bool false] 16) 4)) := fun w => run_make_row (P := Try.prog) 28 4 j0 (.bool false) Try.underlying28 hj hy0 hy1 rfl .i64 .i64 16 (by rw [hy2]; decide) (by decide) w
    go_enter Try.func5, Try.ntmps5
    go_wp2_with fail
    refine (aawake_any W).mono ?_
    rintro e w1 ⟨rfl, hb1⟩
    have HB1 := Lib.hid hb1
    clear hb1
    go_wp2_with fail
    refine ((SepW.nil HB1.out).accNew).mono ?_
    rintro e w2 ⟨b0, D0, rfl, hs2⟩
    have HS3 : Hid (SepW W (w2.alloc (.cells (madeCells #[.bool false] 16) 4)) [obArr w2.heap.size 16 4 (fun j => .bool (hasF xs 0 (j : Int))), obAcc (.pointer (some ⟨b0, 0, none⟩)) D0 0 (stF xs 0)]) := Lib.hid (hs2.arrMade (.bool false) 4 16)
    clear hs2 HB1
    go_wp2_with fail
    generalize w2.heap.size = LB at *
    clear hmk
    go_loopw [8, 9] (fun i _ wr => ∃ (k : Nat) (D : Nat → Prop), k ≤ xs.length ∧ i = .int .i64 k ∧ SepW W wr [obArr LB 16 4 (fun j => .bool (hasF xs k (j : Int))), obAcc (.pointer (some ⟨b0, 0, none⟩)) D k (stF xs k)]) (fun i _ _ => xs.length - (intOf i).toNat)
    case atStart => exact ⟨0, D0, by omega, rfl, HS3.out⟩
    case round =>
      clear HS3
      obtain ⟨k, D, hk, rfl, hsep⟩ := hrel
      have HSk := Lib.hid hsep
      clear hsep
      by_cases hlt : k < xs.length
      · have hki : (k : Int) < (xs.length : Int) := by omega
        obtain ⟨x, hx⟩ : ∃ x, xs[k]? = some x := ⟨_, List.getElem?_eq_getElem hlt⟩
        obtain ⟨xo, xc, hxe, _, _, hxx⟩ := (H0.out.below HSk.out.below (Nat.le_refl _))
        simp only [List.length_map] at hxe
        cases hxe
        obtain ⟨xa, rfl, hxm⟩ := hxx k (.int .u8 x) (by rw [List.getElem?_map, hx]; rfl)
        have hxb := HU.out x (List.mem_of_getElem? hx)
        have hand := and15 hxb
        have HSt := Lib.hid (stF_step hx)
        have HSu := Lib.hid (fun a => hasF_succ hx a)
        obtain ⟨j, hj⟩ : ∃ j : Nat, (j : Int) = x % 16 := ⟨(x % 16).toNat, by omega⟩
        rw [← hj] at hand HSt HSu
        have hj16 : j < 16 := by omega
        have hj0 : (0 : Int) ≤ (j : Int) := by omega
        have hji : (j : Int) < 16 := by omega
        have HSa := Lib.hid (HSk.out.step (below_lit wr (.cells #[.int .u8 (j : Int)] 5)))
        clear hj hxx hx
        go_wp2_with fail
        refine (HSa.out.accept 1 rfl (v := ⟨j, 3, [(j : Int)]⟩) (slr_one wr j _) (by show U1 (j : Int); constructor <;> omega) (by show U1 3; constructor <;> decide) (by intro x hx; simp at hx; omega) (by simp) (by omega)).mono ?_
        rintro e w4 ⟨rfl, D', hs4⟩
        rw [HSt.out.1]
        rw [HSt.out.2] at hs4
        obtain ⟨f1, f2⟩ := hs4.arrCell 0 rfl hj16
        have HS5 := Lib.hid (hs4.arrSet 0 rfl hj16 (.bool true))
        clear hs4 HSa
        go_wp2_with fail
        go_roundw
        case rel =>
          refine ⟨k + 1, D', by omega, by go_num, ?_⟩
          have e1 : obArr LB 16 4 (fun i => if i = j then .bool true else .bool (hasF xs k (i : Int))) = obArr LB 16 4 (fun i => .bool (hasF xs (k + 1) (i : Int))) := obArr_congr fun i hi => by
            rw [HSu.out (i : Int)]
            by_cases h : i = j
            · subst h; simp
            · rw [if_neg h]
              have : ((i : Int) == (j : Int)) = false := by rw [beq_eq_false_iff_ne]; omega
              rw [this, Bool.or_false]
          rw [← e1]
          exact HS5.out
        case measure => simp [intOf]; omega
      · have hkl : k = xs.length := by omega
        have hkd : decide ((k : Int) < (xs.length : Int)) = false := decide_eq_false (by omega)
        subst hkl
        have hand := and31 wl
        obtain ⟨n, hn⟩ : ∃ n : Nat, (n : Int) = lo % 32 := ⟨(lo % 32).toNat, by omega⟩
        rw [← hn] at hand
        have hn32 : (n : Int) < 32 := by omega
        have hn0 : (0 : Int) ≤ (n : Int) := by omega
        have hwn : IntKind.u64.wrap ((n : Int) / 2) = (n : Int) / 2 := IntWalk.u64_in _ (by omega)
        have hlen30 : xs.length < 50 := by omega
        clear hn hlt hk HU H0 hli hac ham
        go_wp2_with fail
        refine (HSk.out.forget 1 rfl (slot := (n : Int)) (by constructor <;> omega)).mono ?_
        rintro e w4 ⟨rfl, hs4⟩
        rw [stG_of xs hn0] at hs4
        have hp3 : (stF xs xs.length).promised ≤ 3 := by unfold stF; simp only; split <;> omega
        generalize (stF xs xs.length).promised = p at *
        have HS4 := Lib.hid hs4
        clear hs4 HSk
        go_wp2_with fail
        refine (HS4.out.forget 1 rfl (slot := (n : Int) / 2) (by constructor <;> omega)).mono ?_
        rintro e w5 ⟨rfl, hs5⟩
        rw [stG_half xs hn0] at hs5
        have HS5 := Lib.hid hs5
        clear hs5 HS4
        go_wp2_with fail
        refine (HS5.out.prepOk 1 rfl (x := 3) (fr := 0) hp3 (by constructor <;> decide) hlen30).mono ?_
        rintro e w6 ⟨ks, ro, rc, vs, hks, rfl, hs6⟩
        have hL := told_F hks
        have hL' : votL (stG xs p (n : Int)).l ks 0 = _ := hL
        rw [hL'] at hs6 ⊢
        have HLa := Lib.hid (fun (k : Nat) (h1 : k < 16) (h2 : pF xs n k = true) => told_at h1 h2)
        have HLt := Lib.hid (fun (k : Nat) (h1 : k < 16) (h2 : pF xs n k = true) => told_lt h1 h2)
        have hLl := told_len xs n
        generalize ((List.range 16).filter (pF xs n)).map (fun (k : Nat) => (⟨(k : Int), 3, [(k : Int)]⟩ : Vt)) = L at *
        have HS6 : Hid (SepW W w6 [obVts (.slice ro L.length rc) 39 vs L, obArr LB 16 4 (fun j => .bool (hasF xs xs.length (j : Int))), obAcc (.pointer (some ⟨b0, 0, none⟩)) D xs.length ⟨3, n, gvF xs n⟩]) := Lib.hid hs6
        have HLl := Lib.hid hLl
        clear hs6 HS5 hL hL' hks hp3 hLl
        go_wp2_with fail
        refine (HS6.out.accLow 2 rfl).mono ?_
        rintro e w7 ⟨rfl, rfl⟩
        have hnn : ((n : Int) != (n : Int)) = false := by simp
        go_wp2_with fail
        go_loopw [14, 13] (fun i q wr => ∃ (k : Nat) (D : Nat → Prop) (A : AS), k ≤ 16 ∧ i = .int .i64 k ∧ q = .int .i64 (nF xs n k : Nat) ∧ A.promised = 3 ∧ A.low = n ∧ SepW W wr [obVts (.slice ro L.length rc) 39 vs L, obArr LB 16 4 (fun j => .bool (hasF xs xs.length (j : Int))), obAcc (.pointer (some ⟨b0, 0, none⟩)) D (xs.length + k) A]) (fun i _ _ => 16 - (intOf i).toNat)
        case atStart => exact ⟨0, D, _, by omega, rfl, rfl, rfl, rfl, HS6.out⟩
        case round =>
          clear HS6
          obtain ⟨k, D2, A, hk, rfl, rfl, hA1, hA2, hsep⟩ := hrel
          have HSk := Lib.hid hsep
          have HA1 := Lib.hid hA1
          have HA2 := Lib.hid hA2
          clear hsep hA1 hA2
          by_cases hlt : k < 16
          · have hki : (k : Int) < 16 := by omega
            have hwk : IntKind.u64.wrap (k : Int) = (k : Int) := IntWalk.u64_in _ (by omega)
            have hwb : IntKind.u8.wrap (k : Int) = (k : Int) := IntWalk.u8_in _ (by omega)
            have hk0 : (0 : Int) ≤ (k : Int) := by omega
            have HSa := Lib.hid (HSk.out.step (below_lit wr (.cells #[.int .u8 (k : Int)] 5)))
            have hat0 : (0 : Int) ≤ (nF xs n k : Nat) := by omega
            have hnk := nF_le xs n k
            have hsucc := filter_succ (pF xs n) k
            have hsucc : nF xs n (k + 1) = nF xs n k + (if pF xs n k then 1 else 0) := hsucc
            have HSu := Lib.hid hsucc
            have hwq : IntKind.i64.wrap (((nF xs n k : Nat) : Int) + 1) = ((nF xs n k : Nat) : Int) + 1 := IntWalk.i64_in _ (by omega)
            clear hsucc
            go_wp2_with fail
            refine (HSa.out.accept 2 rfl (v := ⟨k, 3, [(k : Int)]⟩) (slr_one wr k _) (by show U1 (k : Int); constructor <;> omega) (by show U1 3; constructor <;> decide) (by intro x hx; simp at hx; omega) (by simp) (by omega)).mono ?_
            rintro e w8 ⟨rfl, D', hs8⟩
            have hA : (accR A ⟨k, 3, [(k : Int)]⟩).promised = 3 ∧ (accR A ⟨k, 3, [(k : Int)]⟩).low = n := by
              unfold accR
              split
              · exact ⟨rfl, HA2.out⟩
              · exact ⟨HA1.out, HA2.out⟩
            have hE : accE A ⟨k, 3, [(k : Int)]⟩ = if (k : Int) < n then 15 else 0 := by
              unfold accE
              simp only [HA1.out, HA2.out]
              rw [if_neg (by omega)]
            generalize accR A ⟨k, 3, [(k : Int)]⟩ = A' at *
            have HA' := Lib.hid hA
            rw [hE]
            have HS8 := Lib.hid hs8
            clear hs8 HSa hA hE
            obtain ⟨f1, f2⟩ := HS8.out.arrCell 1 rfl hlt
            by_cases hkn : (k : Int) < n
            · rw [if_pos hkn]
              have hpf : pF xs n k = false := by unfold pF; simp; intro _; omega
              have hsu := HSu.out
              rw [hpf] at hsu
              simp only [Bool.false_eq_true, if_false, Nat.add_zero] at hsu
              have hkn2 : decide ((n : Int) ≤ (k : Int)) = false := decide_eq_false (by omega)
              have HSv := Lib.hid hsu
              clear hsu hpf
              generalize hasF xs xs.length (k : Int) = hb at f1
              cases hb
              · go_wp2_with fail
                go_roundw
                case rel => exact ⟨k + 1, D', A', by omega, by go_num, by rw [HSv.out], HA'.out.1, HA'.out.2, HS8.out⟩
                case measure => simp [intOf]; omega
              · go_wp2_with fail
                go_roundw
                case rel => exact ⟨k + 1, D', A', by omega, by go_num, by rw [HSv.out], HA'.out.1, HA'.out.2, HS8.out⟩
                case measure => simp [intOf]; omega
            · rw [if_neg hkn]
              have hkn1 : decide ((k : Int) < (n : Int)) = false := decide_eq_false hkn
              have hkn2 : (n : Int) ≤ (k : Int) := by omega
              cases hb : hasF xs xs.length (k : Int)
              · rw [hb] at f1
                have hpf : pF xs n k = false := by unfold pF; rw [hb]; rfl
                have hsu := HSu.out
                rw [hpf] at hsu
                simp only [Bool.false_eq_true, if_false, Nat.add_zero] at hsu
                have HSv := Lib.hid hsu
                clear hsu hpf hb
                go_wp2_with fail
                go_roundw
                case rel => exact ⟨k + 1, D', A', by omega, by go_num, by rw [HSv.out], HA'.out.1, HA'.out.2, HS8.out⟩
                case measure => simp [intOf]; omega
              · rw [hb] at f1
                have hpf : pF xs n k = true := by unfold pF; rw [hb]; simp; omega
                have hsu := HSu.out
                rw [hpf] at hsu
                simp only [if_true] at hsu
                have HSv := Lib.hid hsu
                have hLk := HLa.out k hlt hpf
                have hLt2 := HLt.out k hlt hpf
                have hLl := HLl.out
                rw [← hLl] at hLt2
                have hv := (HS8.out.get 0 rfl : (obVts (.slice ro L.length rc) 39 vs L).inv w8)
                obtain ⟨ao', c', he, hc1, hc2, hvx⟩ := VtL.of_own hv.1 hv.2.1
                cases he
                obtain ⟨ra, sv, rfl, q0, q1, q2, hsv⟩ := hvx _ _ hLk
                obtain ⟨so, sc, rfl, hsc1, hsc2, hsx⟩ := hsv
                obtain ⟨sa, rfl, qx⟩ := hsx 0 (.int .u8 (k : Int)) rfl
                simp only at q0 q1
                have qx2 : w8.cell? sa = some (.int .u8 (k : Int)) := qx
                generalize nF xs n k = m at *
                have hmi : (m : Int) < (L.length : Int) := by omega
                have hmd : decide ((L.length : Int) ≤ (m : Int)) = false := decide_eq_false (by omega)
                clear hsu hpf hb hLk hLl hvx hv hsx
                go_wp2_with fail
                go_roundw
                case rel => exact ⟨k + 1, D', A', by omega, by go_num, by rw [HSv.out]; rfl, HA'.out.1, HA'.out.2, HS8.out⟩
                case measure => simp [intOf]; omega
          · have hk16 : k = 16 := by omega
            subst hk16
            have hkk : decide (((16 : Nat) : Int) < 16) = false := by decide
            have hLl := HLl.out
            rw [hLl]
            clear hk hlt
            go_wp2_with fail
            go_ret
            exact ⟨by first | rfl | simp, HSk.out.below⟩
theorem acceptorForgets_holds : Rows.AcceptorForgetsSaid :=
  OpenClaim.holds_of_wide 5 Try.f5 rfl rfl rfl rfl rfl rfl rfl ⟨rfl, rfl, rfl, rfl, rfl⟩ rfl rfl rfl rfl rfl (by kernel_rfl) Try.func5 (by kernel_rfl)
    (of_decide_eq_true (by kernel_rfl)) (by unfold Func.isWrapper; rw [if_neg (by decide +kernel)]; exact ⟨rfl, rfl⟩)
    (fun os started H enc _ => law_frame (C := Try.checked) (fn := Try.f5) (s := Rows.acceptorForgetsSpec) (tb := 4) Try.own started (by kernel_rfl) Try.func5 Try.laidOut rfl (by kernel_rfl) Try.underlying4 (by kernel_rfl)
      (fun ds hd => by match ds, hd with | [_, _], _ => exact ⟨rfl, rfl, rfl⟩)
      (ChangeSpec.witness6 (enc := enc) (C := Try.checked) false ⟨#[], #[.slice none 0 0, .int .u8 0], []⟩ 8 (by kernel_rfl) (by kernel_rfl) (by kernel_rfl) (by kernel_rfl))
      (fun W base args ds p hval0 hA0 _ => by
        have hval : ∀ (j : Nat) t v, Try.f5.params[j]? = some t → args[j]? = some v → Value.okWide Try.prog W .any base t v := hval0
        have hA : DataW.TrodAll enc Try.prog W 0 (fun _ => true) true Try.f5.params.toList args.toList ds p := hA0
        rw [Try.params5] at hA hval
        obtain ⟨v0, v1, d0, d1, p0, p1, rfl, rfl, rfl, h0, h1⟩ := trodAll_two hA
        obtain ⟨x0, hx0, wx0⟩ := arg_ints Try.underlying30 Try.underlying5 (by kernel_rfl) (hval 0 30 v0 rfl rfl) h0
        obtain ⟨x1, rfl, rfl, rfl, wx1⟩ := open_int Try.underlying5 (hval 1 5 v1 rfl rfl) h1
        exact acceptorForgets_walk hx0 wx0 wx1))

end Go.Proofs.Ytjdjfhioobhcjaa
