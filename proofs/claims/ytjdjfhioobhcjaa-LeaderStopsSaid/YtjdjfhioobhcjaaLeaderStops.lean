/-
  LeaderStops: who stopped, or asks anew, hears no vote of an old ballot; a ballot is begun once. No conditions.
-/
import Derived.Test.YtjdjfhioobhcjaaLeaW
import Derived.Test.YtjdjfhioobhcjaaFrame
namespace Go.Proofs.Ytjdjfhioobhcjaa
open Go.ChangeShapes Go.WideShapes Go.ChangeAt Go.RowKit Go.Maps
set_option maxRecDepth 100000

def ls2 (b : Int) : LS := promV (beginL (newLS 1) b 0) 0 0 []
theorem ls2_end (b : Int) : IsEnd (ls2 b) 0 := ⟨⟨Int.le_refl _, by constructor <;> decide⟩, fun s hs _ => (by cases hs), Or.inl rfl⟩
theorem ls2_near (b : Int) : ¬ farL (ls2 b) := by rintro ⟨s, hs, _⟩; cases hs
def ls4 (b : Int) : LS := nextL (opP (leadL (ls2 b) 0) ⟨0, b, [120]⟩ (fun _ => false))
set_option maxHeartbeats 4000000 in
theorem leaderStops_walk {x0 x1 : Int} {x2 : Bool} (w0 : (Lit.int .u8 x0).wf = true) (w1 : (Lit.int .u8 x1).wf = true) {W : World} :
    Calls Try.prog 10 #[.int .u8 x0, .int .u8 x1, .bool x2] W fun e W' => e = .returned (.bool true) ∧ Below W.heap.size W W' := by
  simp [Lit.wf, IntKind.min, IntKind.max, IntKind.signed, IntKind.bits] at w0 w1
  obtain ⟨a0, a1⟩ := w0
  obtain ⟨c0, c1⟩ := w1
  have kc := fun (w : World) (C : Array Value) (n c : Nat) => Lib.run_convert_bytes_const (P := Try.prog) w 30 5 C n c Try.underlying30 Try.underlying5
  have hw0 : IntKind.u64.wrap x0 = x0 := IntWalk.u64_in _ (by omega)
  have hw1 : IntKind.u64.wrap x1 = x1 := IntWalk.u64_in _ (by omega)
  have hw2 : IntKind.u64.wrap (x0 + 1) = x0 + 1 := IntWalk.u64_in _ (by omega)
  go_enter Try.func10, Try.ntmps10
  go_wp2_with fail
  refine (lawake_any W).mono ?_
  rintro e w1 ⟨rfl, hb1⟩
  have HB1 := Lib.hid hb1
  clear hb1
  go_wp2_with fail
  refine ((SepW.nil HB1.out).leaNew (many := 1) (by decide)).mono ?_
  rintro e w1 ⟨b0, D, rfl, hs1⟩
  have HS1 := Lib.hid hs1
  clear hs1 HB1
  go_wp2_with fail
  refine (HS1.out.leaBegin 0 rfl (b := x0 + 1) (fr := 0) (by show (0 : Int) < x0 + 1; omega) (by constructor <;> omega) (by constructor <;> decide)).mono ?_
  rintro e w2 ⟨rfl, D2, hs2⟩
  have HS2 : Hid (SepW W w2 [obLea (.pointer (some ⟨b0, 0, none⟩)) D2 0 (beginL (newLS 1) (x0 + 1) 0)]) := Lib.hid hs2
  clear hs2 HS1
  go_wp2_with fail
  refine (HS2.out.leaProm 0 rfl (n := 0) (b := x0 + 1) (low := 0) (hs := []) ⟨rfl, rfl, by decide, by show (0 : Int) < 1; decide⟩ rfl (by constructor <;> decide) (fun w' _ => VtL.nil w') (by intro v hv; cases hv) (by decide)).mono ?_
  rintro e w3 (⟨hm, _⟩ | ⟨_, hf, _⟩ | ⟨_, _, en, D4, ks, ao, c, vs, hen, hks, rfl, hs4⟩)
  · exact absurd (show ((beginL (newLS 1) (x0 + 1) 0).many : Int) / 2 < cnt 32 (addK (fun _ => false) 0) from by show (1 : Int) / 2 < _; decide) hm
  · exact absurd hf (ls2_near _)
  obtain rfl : en = 0 := hen.unique (ls2_end _)
  have hop : opL (leadP (promV (beginL (newLS 1) (x0 + 1) 0) 0 0 []) 0) ks = [] := lead_votes (n := 0) hks (fun _ => rfl) rfl
  rw [hop] at hs4 ⊢
  have HS3 : Hid (SepW W w3 [obLea (.pointer (some ⟨b0, 0, none⟩)) D4 4097 (leadL (ls2 (x0 + 1)) 0)]) := Lib.hid (hs4.sub (List.sublist_cons_self _ _))
  clear hs4 hop hks hen HS2
  go_wp2_with fail
  have hba := below_lit w3 (.cells (u8s [120]).toArray 5 (1, 2))
  refine ((HS3.out.step hba).leaPropose 0 rfl (xs := [120]) (lit_u8 w3 [120] _ _ (by decide)) (by intro x hx; simp at hx; omega) (by decide) rfl (by show (0 : Int) ≠ 18446744073709551615; decide) (by decide)).mono ?_
  rintro e w5 ⟨po, pc, D5, rfl, hs5⟩
  have HS5 : Hid (SepW W w5 [obLea (.pointer (some ⟨b0, 0, none⟩)) D5 4098 (ls4 (x0 + 1))]) := Lib.hid (hs5.sub (List.sublist_cons_self _ _))
  clear hs5 hba HS3
  rw [show (leadL (ls2 (x0 + 1)) 0).next = 0 from rfl, show (leadL (ls2 (x0 + 1)) 0).ballot = x0 + 1 from rfl]
  go_wp2_with fail
  have HS6 := Lib.hid (HS5.out.newBlk #[.int .u64 0, .int .u64 (x0 + 1), .slice po 1 pc] 39)
  clear HS5
  refine (HS6.out.leaLeads 1 rfl).mono ?_
  rintro e w6 ⟨rfl, rfl⟩
  rw [show ((ls4 (x0 + 1)).stage == 2) = true from rfl]
  cases x2
  · by_cases hcb : x0 + 1 < x1
    · have hd1 : decide (x1 ≤ x0 + 1) = false := decide_eq_false (by omega)
      have hd2 : decide (x0 + 1 < x1) = true := decide_eq_true hcb
      go_wp2_with fail
      refine (HS6.out.leaBegin 1 rfl (b := x1) (fr := 0) hcb (by constructor <;> omega) (by constructor <;> decide)).mono ?_
      rintro e w7 ⟨rfl, D7, hs7⟩
      obtain ⟨A5, hA5⟩ : ∃ A5, A5 = beginL (ls4 (x0 + 1)) x1 0 := ⟨_, rfl⟩
      have HSt : Hid (A5.stage ≠ 2) := Lib.hid (by rw [hA5]; show (1 : Int) ≠ 2; decide)
      have HOp : Hid (∀ a, A5.op a = none) := Lib.hid (by rw [hA5]; intro a; rfl)
      have hs7 : SepW W w7 [obBlk w5.heap.size (.cells #[.int .u64 0, .int .u64 (x0 + 1), .slice po 1 pc] 39), obLea (.pointer (some ⟨b0, 0, none⟩)) D7 0 A5] := by rw [hA5]; exact hs7
      obtain ⟨z0, _⟩ := hs7.blk 0 rfl 0 _ rfl
      have HS7 : Hid (SepW W w7 [obBlk w5.heap.size (.cells #[.int .u64 0, .int .u64 (x0 + 1), .slice po 1 pc] 39), obLea (.pointer (some ⟨b0, 0, none⟩)) D7 0 A5]) := Lib.hid hs7
      clear hs7 hA5 HS6
      go_wp2_with fail
      refine (HS7.out.leaAccNo 1 rfl (node := 0) (b := x0 + 1) (s := 0) (by rintro ⟨hst, _⟩; exact absurd hst HSt.out)).mono ?_
      rintro e w8 ⟨rfl, hs8⟩
      have HS8 := Lib.hid hs8
      clear hs8
      go_wp2_with fail
      have HS9 := Lib.hid (HS8.out.newBlk #[.int .u64 0, .int .u64 0, .slice none 0 0] 39)
      refine (HS9.out.leaProposeState 2 rfl HSt.out).mono ?_
      rintro e w9 ⟨rfl, hs9⟩
      have HS10 := Lib.hid hs9
      clear hs9 HS9 HS8
      go_wp2_with fail
      have HS11 := Lib.hid (HS10.out.newBlk #[.int .u64 0, .int .u64 0, .slice none 0 0] 39)
      refine (HS11.out.leaLeads 3 rfl).mono ?_
      rintro e w10 ⟨rfl, rfl⟩
      have hls : (A5.stage == 2) = false := by rw [beq_eq_false_iff_ne]; exact HSt.out
      rw [hls]
      clear hls
      go_wp2_with fail
      refine (HS11.out.leaOpen 3 rfl (by decide)).mono ?_
      rintro e w11 ⟨ks, oo, oc, ovs, hks, rfl, hs12⟩
      have hkl : (opL A5.op ks).length = 0 := by rw [hks.eq (ks' := []) List.Pairwise.nil (fun x => by rw [HOp.out x]; simp)]; rfl
      rw [hkl]
      have HS12 := Lib.hid hs12
      clear hks hs12 hkl
      go_wp2_with fail
      go_ret
      exact ⟨rfl, HS12.out.below⟩
    · have hd1 : decide (x1 ≤ x0 + 1) = true := decide_eq_true (by omega)
      have hd2 : decide (x0 + 1 < x1) = false := decide_eq_false hcb
      go_wp2_with fail
      refine (HS6.out.leaBeginOld 1 rfl (b := x1) (fr := 0) (by show x1 ≤ x0 + 1; omega)).mono ?_
      rintro e w7 ⟨rfl, rfl⟩
      obtain ⟨z0, _⟩ := HS6.out.blk 0 rfl 0 _ rfl
      go_wp2_with fail
      refine (HS6.out.leaAcc 1 rfl (n := 0) (b := x0 + 1) (s := 0) (v := ⟨0, x0 + 1, [120]⟩) (g := fun _ => false) ⟨rfl, rfl, by decide, by show (0 : Int) < 1; decide⟩ (by constructor <;> decide) rfl (by decide)).mono ?_
      rintro e w8 (⟨_, qo, qc, D7, rfl, hs7⟩ | ⟨hm, _⟩)
      rotate_left
      · exact absurd (show ((ls4 (x0 + 1)).many : Int) / 2 < cnt 32 (addK (fun _ => false) 0) from by show (1 : Int) / 2 < _; decide) hm
      have HS8 := Lib.hid hs7
      clear hs7
      go_wp2_with fail
      go_ret
      exact ⟨rfl, HS8.out.below.trans ((below_lit w8 _).mono HS8.out.below.size)⟩
  · go_wp2_with fail
    refine (HS6.out.leaStop 1 rfl).mono ?_
    rintro e w7 ⟨rfl, hs7⟩
    obtain ⟨A5, hA5⟩ : ∃ A5, A5 = stopL (ls4 (x0 + 1)) := ⟨_, rfl⟩
    have HSt : Hid (A5.stage ≠ 2) := Lib.hid (by rw [hA5]; show (0 : Int) ≠ 2; decide)
    have HOp : Hid (∀ a, A5.op a = none) := Lib.hid (by rw [hA5]; intro a; rfl)
    have hs7 : SepW W w7 [obBlk w5.heap.size (.cells #[.int .u64 0, .int .u64 (x0 + 1), .slice po 1 pc] 39), obLea (.pointer (some ⟨b0, 0, none⟩)) D5 4098 A5] := by rw [hA5]; exact hs7
    obtain ⟨z0, _⟩ := hs7.blk 0 rfl 0 _ rfl
    have HS7 : Hid (SepW W w7 [obBlk w5.heap.size (.cells #[.int .u64 0, .int .u64 (x0 + 1), .slice po 1 pc] 39), obLea (.pointer (some ⟨b0, 0, none⟩)) D5 4098 A5]) := Lib.hid hs7
    clear hs7 hA5 HS6
    go_wp2_with fail
    refine (HS7.out.leaAccNo 1 rfl (node := 0) (b := x0 + 1) (s := 0) (by rintro ⟨hst, _⟩; exact absurd hst HSt.out)).mono ?_
    rintro e w8 ⟨rfl, hs8⟩
    have HS8 := Lib.hid hs8
    clear hs8
    go_wp2_with fail
    have HS9 := Lib.hid (HS8.out.newBlk #[.int .u64 0, .int .u64 0, .slice none 0 0] 39)
    refine (HS9.out.leaProposeState 2 rfl HSt.out).mono ?_
    rintro e w9 ⟨rfl, hs9⟩
    have HS10 := Lib.hid hs9
    clear hs9 HS9 HS8
    go_wp2_with fail
    have HS11 := Lib.hid (HS10.out.newBlk #[.int .u64 0, .int .u64 0, .slice none 0 0] 39)
    refine (HS11.out.leaLeads 3 rfl).mono ?_
    rintro e w10 ⟨rfl, rfl⟩
    have hls : (A5.stage == 2) = false := by rw [beq_eq_false_iff_ne]; exact HSt.out
    rw [hls]
    clear hls
    go_wp2_with fail
    refine (HS11.out.leaOpen 3 rfl (by decide)).mono ?_
    rintro e w11 ⟨ks, oo, oc, ovs, hks, rfl, hs12⟩
    have hkl : (opL A5.op ks).length = 0 := by rw [hks.eq (ks' := []) List.Pairwise.nil (fun x => by rw [HOp.out x]; simp)]; rfl
    rw [hkl]
    have HS12 := Lib.hid hs12
    clear hks hs12 hkl
    go_wp2_with fail
    go_ret
    exact ⟨rfl, HS12.out.below⟩
theorem leaderStops_holds : Rows.LeaderStopsSaid :=
  OpenClaim.holds_of_wide 10 Try.f10 rfl rfl rfl rfl rfl rfl rfl ⟨rfl, rfl, rfl, rfl, rfl⟩ rfl rfl rfl rfl rfl (by kernel_rfl) Try.func10 (by kernel_rfl)
    (of_decide_eq_true (by kernel_rfl)) (by unfold Func.isWrapper; rw [if_neg (by decide +kernel)]; exact ⟨rfl, rfl⟩)
    (fun os started H enc _ => law_frame (C := Try.checked) (fn := Try.f10) (s := Rows.leaderStopsSpec) (tb := 4) Try.own started (by kernel_rfl) Try.func10 Try.laidOut rfl (by kernel_rfl) Try.underlying4 (by kernel_rfl)
      (fun ds hd => by match ds, hd with | [_, _, _], _ => exact ⟨rfl, rfl, rfl⟩)
      (ChangeSpec.witness6 (enc := enc) (C := Try.checked) false ⟨#[], #[.int .u8 0, .int .u8 0, .bool false], []⟩ 8 (by kernel_rfl) (by kernel_rfl) (by kernel_rfl) (by kernel_rfl))
      (fun W base args ds p hval0 hA0 _ => by
        have hval : ∀ (j : Nat) t v, Try.f10.params[j]? = some t → args[j]? = some v → Value.okWide Try.prog W .any base t v := hval0
        have hA : DataW.TrodAll enc Try.prog W 0 (fun _ => true) true Try.f10.params.toList args.toList ds p := hA0
        rw [Try.params10] at hA hval
        obtain ⟨v0, v1, v2, d0, d1, d2, p0, p1, p2, rfl, rfl, rfl, h0, h1, h2⟩ := trodAll_three hA
        obtain ⟨x0, rfl, rfl, rfl, wx0⟩ := open_int Try.underlying5 (hval 0 5 v0 rfl rfl) h0
        obtain ⟨x1, rfl, rfl, rfl, wx1⟩ := open_int Try.underlying5 (hval 1 5 v1 rfl rfl) h1
        obtain ⟨x2, rfl, rfl, rfl⟩ := open_bool Try.underlying4 (hval 2 4 v2 rfl rfl) h2
        exact leaderStops_walk wx0 wx1))

end Go.Proofs.Ytjdjfhioobhcjaa
