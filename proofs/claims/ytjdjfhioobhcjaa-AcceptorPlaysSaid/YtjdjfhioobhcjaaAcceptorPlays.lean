/-
  AcceptorPlays: whatever is prepared, accepted and forgotten, what is told is the document's, step by step. No condition: every input.
-/
import Derived.Test.YtjdjfhioobhcjaaAccR
import Derived.Test.YtjdjfhioobhcjaaAccU
import Derived.Test.YtjdjfhioobhcjaaFrame
namespace Go.Proofs.Ytjdjfhioobhcjaa
open Go.ChangeShapes Go.WideShapes Go.ChangeAt Go.RowKit Go.Maps
set_option maxRecDepth 100000

set_option maxHeartbeats 8000000 in
theorem acceptorPlays_walk {W : World} {v0 : Value} {L0 : List Ac} (h0 : ActL W v0 L0) (w0 : ∀ x ∈ L0, AcOk x) :
    Calls Try.prog 6 #[v0] W fun e W' => e = .returned (.bool true) ∧ Below W.heap.size W W' := by
  have H0 := Lib.hid h0
  have HW := Lib.hid w0
  obtain ⟨ao, ac, rfl, hac, ham, _⟩ := h0
  clear w0
  go_enter Try.func6, Try.ntmps6
  go_wp2_with fail
  refine (aawake_any W).mono ?_
  rintro e w1 ⟨rfl, hb1⟩
  have HB1 := Lib.hid hb1
  clear hb1
  go_wp2_with fail
  refine ((SepW.nil HB1.out).accNew).mono ?_
  rintro e w2 ⟨b0, D0, rfl, hs2⟩
  have hs3 := (hs2.newRef (lv := .slice none 0 0) (L := []) (World.ownsRow_nil _ _ _ _) (Below.refl _ _)).newBlk #[.int .u64 0, .int .u64 0, .slice none 0 0] 48
  have HS3 : Hid (SepW W (w2.alloc (.cells #[.int .u64 0, .int .u64 0, .slice none 0 0] 48)) [obBlk w2.heap.size (.cells #[.int .u64 0, .int .u64 0, .slice none 0 0] 48), obAcc (.pointer (some ⟨b0, 0, none⟩)) D0 0 emptyAS, obRef (.slice none 0 0) []]) := Lib.hid ⟨hs3.sep.perm ((List.Perm.swap _ _ _).cons _), hs3.below⟩
  clear hs2 hs3 HB1
  go_wp2_with fail
  generalize w2.heap.size = WB at *
  go_loopw [6] (fun i wr => ∃ (k : Nat) (A : AS) (L : List Vt) (D : Nat → Prop) (lo : Option Addr) (lc : Nat), k ≤ L0.length ∧ k ≤ 40 ∧ i = .int .i64 k ∧ RefA A L ∧ L.length ≤ k ∧ SepW W wr [obBlk WB (.cells #[.int .u64 A.promised, .int .u64 A.low, .slice lo L.length lc] 48), obAcc (.pointer (some ⟨b0, 0, none⟩)) D k A, obRef (.slice lo L.length lc) L]) (fun i _ => 40 - (intOf i).toNat)
  case atStart => exact ⟨0, emptyAS, [], D0, none, 0, by omega, by omega, rfl, RefA.empty, Nat.le_refl _, HS3.out⟩
  case round =>
    clear HS3
    obtain ⟨k, A, L, D, lo, lc, hk, hk40, rfl, hra, hll, hsep⟩ := hrel
    have HSk := Lib.hid hsep
    have HRA := Lib.hid hra
    clear hsep hra
    by_cases hlt : k < L0.length ∧ k < 40
    · obtain ⟨hlt, hlt40⟩ := hlt
      have hki : (k : Int) < (L0.length : Int) := by omega
      have hki40 : (k : Int) < 40 := by omega
      obtain ⟨x, hx⟩ : ∃ x, L0[k]? = some x := ⟨_, List.getElem?_eq_getElem hlt⟩
      have hok := HW.out x (List.mem_of_getElem? hx)
      obtain ⟨_, _, he, _, _, hxx⟩ := id H0.out
      cases he
      obtain ⟨a, rfl, sv, q0, q1, q2, q3, hsl⟩ := hxx k x hx
      obtain ⟨kd, sl, b, xs⟩ := x
      obtain ⟨⟨hkd0, hkd1⟩, hsl1, hub, hu8⟩ := hok
      simp only at q0 q1 q2 hsl hkd0 hkd1 hsl1 hub hu8
      have q0 := (HSk.out.below.cell (World.block_lt_of_cell? W _ q0)).trans q0
      have q1 := (HSk.out.below.cell (World.block_lt_of_cell? W _ q1)).trans q1
      have q2 := (HSk.out.below.cell (World.block_lt_of_cell? W _ q2)).trans q2
      have q3 := (HSk.out.below.cell (World.block_lt_of_cell? W _ q3)).trans q3
      obtain ⟨vo, vc, rfl, hvc1, hvc2⟩ := hsl.form
      simp only [List.length_map] at hsl q3 hvc1
      have HXs := Lib.hid hsl
      have HU8 := Lib.hid hu8
      have HUb := Lib.hid hub
      have HUs := Lib.hid hsl1
      obtain ⟨q, hqd⟩ : ∃ q, bits BinOp.and IntKind.i64 kd 3 = q := ⟨_, rfl⟩
      have HSx0 := Lib.hid (HSk.out.newBlk #[.int .i64 kd, .int .u64 sl, .int .u64 b, .slice vo xs.length vc] 32)
      have HSx : Hid (SepW W (wr.alloc (.cells #[.int .i64 kd, .int .u64 sl, .int .u64 b, .slice vo xs.length vc] 32)) [obBlk wr.heap.size (.cells #[.int .i64 kd, .int .u64 sl, .int .u64 b, .slice vo xs.length vc] 32), obBlk WB (.cells #[.int .u64 A.promised, .int .u64 A.low, .slice lo L.length lc] 48), obAcc (.pointer (some ⟨b0, 0, none⟩)) D k A, obRef (.slice lo L.length lc) L]) := HSx0
      clear hx hxx hub hu8 hsl HSx0
      by_cases h60 : xs.length ≤ 60
      · have hle60 : decide ((60 : Int) < (xs.length : Int)) = false := decide_eq_false (by omega)
        have hqs : q = 0 ∨ q = 1 ∨ q = 2 ∨ (q ≠ 0 ∧ q ≠ 1 ∧ q ≠ 2) := by omega
        rcases hqs with hqs | hqs | hqs | ⟨hqs, hqs2, hqs3⟩
        · as_aux_lemma =>
            have hqa : (q == 0) = true := by rw [beq_iff_eq]; omega
            rcases Int.lt_or_le b A.promised with hlt' | hge'
            · obtain ⟨x0, _⟩ := HSx.out.blk 0 rfl 0 _ rfl
              obtain ⟨x1, _⟩ := HSx.out.blk 0 rfl 1 _ rfl
              obtain ⟨x2, _⟩ := HSx.out.blk 0 rfl 2 _ rfl
              obtain ⟨x3, _⟩ := HSx.out.blk 0 rfl 3 _ rfl
              obtain ⟨y0, z0⟩ := HSx.out.blk 1 rfl 0 _ rfl
              obtain ⟨y1, z1⟩ := HSx.out.blk 1 rfl 1 _ rfl
              obtain ⟨y2, z2⟩ := HSx.out.blk 1 rfl 2 _ rfl
              go_wp2_with fail
              refine (HSx.out.prepOld 2 rfl (x := b) (fr := sl) hlt').mono ?_
              rintro e wy ⟨rfl, rfl⟩
              go_wp2_with fail
              refine (HSx.out.rprepOld 3 rfl hlt').mono ?_
              rintro e wz ⟨rfl, hs7⟩
              clear x0 x1 x2 x3 y0 y1 y2 z0 z1 z2
              simp only [rA]
              have hs75 := hs7.newBlk #[.int .u64 A.promised, .int .u64 A.low, .slice lo L.length lc] 48
              have HS75 := Lib.hid hs75
              obtain ⟨y0, z0⟩ := HS75.out.blk 2 rfl 0 _ rfl
              obtain ⟨y1, z1⟩ := HS75.out.blk 2 rfl 1 _ rfl
              obtain ⟨y2, z2⟩ := HS75.out.blk 2 rfl 2 _ rfl
              have HS7 := Lib.hid (hs75.blkSet3 2 rfl (.int .u64 A.promised) (.int .u64 A.low) (.slice lo L.length lc))
              clear hs7 hs75
              go_wp2_with fail
              refine (HS7.out.votesNil).mono ?_
              rintro e wu ⟨uo, uc, rfl, hs9⟩
              have HS9 := Lib.hid hs9
              clear hs9 y0 y1 y2 z0 z1 z2
              go_wp2_with fail
              refine (same_any (HS9.out.refL 0 rfl) (RfL.nil _)).mono ?_
              rintro e wd ⟨rfl, hd⟩
              have HS8 : Hid (SepW W wd [obBlk wr.heap.size (.cells #[.int .i64 kd, .int .u64 sl, .int .u64 b, .slice vo xs.length vc] 32), obBlk WB (.cells #[.int .u64 A.promised, .int .u64 A.low, .slice lo L.length lc] 48), obAcc (.pointer (some ⟨b0, 0, none⟩)) D (k + 1) A, obRef (.slice lo L.length lc) L]) := Lib.hid (((HS9.out.step hd.below).sub ((List.sublist_cons_self _ _).trans (List.sublist_cons_self _ _))).accMono 2 rfl (Nat.le_succ k))
              clear hd HS9 HS7 HS75
              obtain ⟨x0, _⟩ := HS8.out.blk 0 rfl 0 _ rfl
              obtain ⟨x1, _⟩ := HS8.out.blk 0 rfl 1 _ rfl
              obtain ⟨x2, _⟩ := HS8.out.blk 0 rfl 2 _ rfl
              obtain ⟨x3, _⟩ := HS8.out.blk 0 rfl 3 _ rfl
              go_wp2_with fail
              refine (HS8.out.voted 2 rfl HUs.out).mono ?_
              rintro e wv ⟨vdo, vdc, rfl, hown9, hb9⟩
              have HS9 : Hid (SepW W (wv.alloc (.cells #[.int .u64 (vOr A sl).slot, .int .u64 (vOr A sl).ballot, .slice vdo (vOr A sl).val.length vdc] 39)) [obBlk wv.heap.size (.cells #[.int .u64 (vOr A sl).slot, .int .u64 (vOr A sl).ballot, .slice vdo (vOr A sl).val.length vdc] 39), obBlk wr.heap.size (.cells #[.int .i64 kd, .int .u64 sl, .int .u64 b, .slice vo xs.length vc] 32), obBlk WB (.cells #[.int .u64 A.promised, .int .u64 A.low, .slice lo L.length lc] 48), obAcc (.pointer (some ⟨b0, 0, none⟩)) D (k + 1) A, obRef (.slice lo L.length lc) L]) := Lib.hid ((HS8.out.step hb9).newBlk #[.int .u64 (vOr A sl).slot, .int .u64 (vOr A sl).ballot, .slice vdo (vOr A sl).val.length vdc] 39)
              have HV9 : Hid (SlR (wv.alloc (.cells #[.int .u64 (vOr A sl).slot, .int .u64 (vOr A sl).ballot, .slice vdo (vOr A sl).val.length vdc] 39)) (.slice vdo (vOr A sl).val.length vdc) (u8s (vOr A sl).val)) := Lib.hid ((SlR.of_own hown9).below (below_lit wv _) (Nat.le_refl _))
              clear hown9 hb9 HS8
              go_wp2_with fail
              generalize wv.alloc (.cells #[.int .u64 (vOr A sl).slot, .int .u64 (vOr A sl).ballot, .slice vdo (vOr A sl).val.length vdc] 39) = w9 at *
              generalize wv.heap.size = VB at *
              generalize wr.heap.size = XB at *
              go_loopw [18, 17] (fun i hv wr => ∃ (m : Nat), m ≤ L.length ∧ i = .int .i64 m ∧ hv = .bool (anyK sl L m) ∧ Drew w9 wr) (fun i _ _ => L.length - (intOf i).toNat)
              case atStart => exact ⟨0, by omega, rfl, rfl, Drew.refl _⟩
              case round =>
                obtain ⟨m, hm, rfl, rfl, hdq⟩ := hrel
                have HSq : Hid (SepW W wr [obBlk VB (.cells #[.int .u64 (vOr A sl).slot, .int .u64 (vOr A sl).ballot, .slice vdo (vOr A sl).val.length vdc] 39), obBlk XB (.cells #[.int .i64 kd, .int .u64 sl, .int .u64 b, .slice vo xs.length vc] 32), obBlk WB (.cells #[.int .u64 A.promised, .int .u64 A.low, .slice lo L.length lc] 48), obAcc (.pointer (some ⟨b0, 0, none⟩)) D (k + 1) A, obRef (.slice lo L.length lc) L]) := Lib.hid (HS9.out.step hdq.below)
                have HVq := Lib.hid (HV9.out.below hdq.below (Nat.le_refl _))
                have HDq := Lib.hid hdq
                clear hdq
                obtain ⟨x0, _⟩ := HSq.out.blk 1 rfl 0 _ rfl
                obtain ⟨x1, _⟩ := HSq.out.blk 1 rfl 1 _ rfl
                obtain ⟨x2, _⟩ := HSq.out.blk 1 rfl 2 _ rfl
                obtain ⟨x3, _⟩ := HSq.out.blk 1 rfl 3 _ rfl
                obtain ⟨y0, _⟩ := HSq.out.blk 2 rfl 0 _ rfl
                obtain ⟨y1, _⟩ := HSq.out.blk 2 rfl 1 _ rfl
                obtain ⟨y2, _⟩ := HSq.out.blk 2 rfl 2 _ rfl
                by_cases hmL : m < L.length
                · have hmi : (m : Int) < (L.length : Int) := by omega
                  obtain ⟨s, hsm⟩ : ∃ s, L[m]? = some s := ⟨_, List.getElem?_eq_getElem hmL⟩
                  obtain ⟨_, _, hle, hr1, hr2, hrx⟩ := HSq.out.refL 4 rfl
                  cases hle
                  obtain ⟨ra, rfl, r0, r1, r2⟩ := hrx m s hsm
                  have HAk := Lib.hid (anyK_succ (a := sl) hsm)
                  have hlk := look_mem HRA.out.rise (List.mem_of_getElem? hsm)
                  clear hrx hr1 hr2
                  by_cases hss : s.slot = sl
                  · have hvs : vOr A sl = s := by unfold vOr; rw [HRA.out.at_, ← hss, hlk]; rfl
                    obtain ⟨v0, _⟩ := HSq.out.blk 0 rfl 0 _ rfl
                    obtain ⟨v1, _⟩ := HSq.out.blk 0 rfl 1 _ rfl
                    obtain ⟨v2, _⟩ := HSq.out.blk 0 rfl 2 _ rfl
                    have hVq := HVq.out
                    rw [hvs] at v0 v1 v2 hVq
                    have rc : ∀ n : Nat, (convert 30 9 (.slice vdo s.val.length vdc)).run Try.prog (wr.drewN n) = .ok (.string (strB s.val)) (wr.drewN n) := fun n => run_strB Try.underlying30 Try.underlying5 Try.underlying9 (hVq.drewN n)
                    have hd1 : decide (s.slot = sl) = true := decide_eq_true hss
                    have hd2 : (s.slot == sl) = true := by rw [beq_iff_eq]; exact hss
                    have HSS := Lib.hid hss
                    clear hss hvs hVq hlk hsm
                    go_wp2_with fail
                    go_quiet (fail)
                    go_wp2_with fail
                    go_quiet (fail)
                    go_wp2_with fail
                    go_roundw
                    case rel => exact ⟨m + 1, by omega, by go_num, by rw [HAk.out, decide_eq_true HSS.out]; simp, HDq.out.drewN _⟩
                    case measure => simp [intOf]; omega
                  · have hd1 : decide (s.slot = sl) = false := decide_eq_false hss
                    have hd2 : (s.slot == sl) = false := by rw [beq_eq_false_iff_ne]; exact hss
                    have HSS := Lib.hid hss
                    clear hss hlk hsm
                    go_wp2_with fail
                    go_quiet (fail)
                    go_wp2_with fail
                    go_roundw
                    case rel => exact ⟨m + 1, by omega, by go_num, by rw [HAk.out, decide_eq_false HSS.out]; simp, HDq.out.drewN _⟩
                    case measure => simp [intOf]; omega
                · have hml : m = L.length := by omega
                  have hmd : decide ((L.length : Int) < (L.length : Int)) = false := decide_eq_false (by omega)
                  rw [hml, anyK_all, ← HRA.out.at_]
                  clear hml hmL hm
                  generalize (A.l sl).isSome = had at *
                  have hee : ((32 : Int) != 32) = false := by simp
                  have hhh : (had != had) = false := by simp
                  go_wp2_with fail
                  go_region_held3 (fun w' => w'.cell? ⟨WB, 0, none⟩ = some (.int .u64 A.promised) ∧ w'.cell? ⟨WB, 1, none⟩ = some (.int .u64 A.low)) (first | go_keep)
                    (first
                      | (go_at_call 19; (with_reducible refine ((HSq.out.step (Below.refl wr.heap.size wr).drew).accPromised 3 rfl).mono ?_); rintro e w' ⟨rfl, rfl⟩)
                      | (go_at_call 21; (with_reducible refine ((HSq.out.step (Below.refl wr.heap.size wr).drew).accLow 3 rfl).mono ?_); rintro e w' ⟨rfl, rfl⟩))
                  go_wp2_with fail
                  go_roundw
                  case rel => exact ⟨k + 1, A, L, D, lo, lc, by omega, by omega, by go_num, HRA.out, by omega, (HSq.out.step (Below.refl wr.heap.size wr).drew).sub ((List.sublist_cons_self _ _).trans (List.sublist_cons_self _ _))⟩
                  case measure => simp [intOf]; omega
            · obtain ⟨x0, _⟩ := HSx.out.blk 0 rfl 0 _ rfl
              obtain ⟨x1, _⟩ := HSx.out.blk 0 rfl 1 _ rfl
              obtain ⟨x2, _⟩ := HSx.out.blk 0 rfl 2 _ rfl
              obtain ⟨x3, _⟩ := HSx.out.blk 0 rfl 3 _ rfl
              obtain ⟨y0, z0⟩ := HSx.out.blk 1 rfl 0 _ rfl
              obtain ⟨y1, z1⟩ := HSx.out.blk 1 rfl 1 _ rfl
              obtain ⟨y2, z2⟩ := HSx.out.blk 1 rfl 2 _ rfl
              go_wp2_with fail
              refine (HSx.out.prepOk 2 rfl (x := b) (fr := sl) hge' HUb.out (by omega)).mono ?_
              rintro e wy ⟨ks, po, pc, vs, hks, rfl, hs6⟩
              have hvl := HRA.out.votL hks sl
              obtain ⟨F, hF⟩ : ∃ F, F = L.filter (fun v => decide (sl ≤ v.slot)) := ⟨_, rfl⟩
              rw [hvl, ← hF] at hs6 ⊢
              have HF := Lib.hid hF
              have hfl : F.length ≤ 1000000 := by rw [hF]; exact Nat.le_trans (List.length_filter_le _ _) (by omega)
              have HS6 := Lib.hid hs6
              clear hs6 hks hvl hF x0 x1 x2 x3 y0 y1 y2 z0 z1 z2
              obtain ⟨x0, _⟩ := HS6.out.blk 1 rfl 0 _ rfl
              obtain ⟨x1, _⟩ := HS6.out.blk 1 rfl 1 _ rfl
              obtain ⟨x2, _⟩ := HS6.out.blk 1 rfl 2 _ rfl
              obtain ⟨x3, _⟩ := HS6.out.blk 1 rfl 3 _ rfl
              obtain ⟨y0, z0⟩ := HS6.out.blk 2 rfl 0 _ rfl
              obtain ⟨y1, z1⟩ := HS6.out.blk 2 rfl 1 _ rfl
              obtain ⟨y2, z2⟩ := HS6.out.blk 2 rfl 2 _ rfl
              go_wp2_with fail
              refine (HS6.out.rprepOk 4 rfl hge' (by omega)).mono ?_
              rintro e wz ⟨ro, rc, rfl, hs7⟩
              rw [← HF.out] at hs7 ⊢
              clear x0 x1 x2 x3 y0 y1 y2 z0 z1 z2
              simp only [rA]
              have hs75 := hs7.newBlk #[.int .u64 b, .int .u64 A.low, .slice lo L.length lc] 48
              have HS75 := Lib.hid hs75
              obtain ⟨y0, z0⟩ := HS75.out.blk 4 rfl 0 _ rfl
              obtain ⟨y1, z1⟩ := HS75.out.blk 4 rfl 1 _ rfl
              obtain ⟨y2, z2⟩ := HS75.out.blk 4 rfl 2 _ rfl
              have HS7 := Lib.hid (hs75.blkSet3 4 rfl (.int .u64 b) (.int .u64 A.low) (.slice lo L.length lc))
              clear hs7 hs75
              go_wp2_with fail
              refine (HS7.out.votes 2 rfl hfl).mono ?_
              rintro e wu ⟨uo, uc, rfl, hs9⟩
              have HS9 := Lib.hid hs9
              clear hs9 y0 y1 y2 z0 z1 z2
              go_wp2_with fail
              refine (HS9.out.same 0 2 rfl rfl).mono ?_
              rintro e wd ⟨rfl, hs10⟩
              obtain ⟨A', hA'⟩ : ∃ A' : AS, A' = ⟨b, A.low, A.l⟩ := ⟨_, rfl⟩
              have HRA' : Hid (RefA A' L) := Lib.hid (by rw [hA']; exact HRA.out.same b A.low)
              have HS8 : Hid (SepW W wd [obBlk wr.heap.size (.cells #[.int .i64 kd, .int .u64 sl, .int .u64 b, .slice vo xs.length vc] 32), obBlk WB (.cells #[.int .u64 A'.promised, .int .u64 A'.low, .slice lo L.length lc] 48), obAcc (.pointer (some ⟨b0, 0, none⟩)) D (k + 1) A', obRef (.slice lo L.length lc) L]) := Lib.hid (by rw [hA']; exact (hs10.sub ((List.sublist_cons_self _ _).trans ((List.sublist_cons_self _ _).trans ((List.sublist_cons_self _ _).trans (List.sublist_cons_self _ _))))).accMono 2 rfl (Nat.le_succ k))
              clear hs10 HS9 HS7 HS75 HS6 hA' hfl HF
              obtain ⟨x0, _⟩ := HS8.out.blk 0 rfl 0 _ rfl
              obtain ⟨x1, _⟩ := HS8.out.blk 0 rfl 1 _ rfl
              obtain ⟨x2, _⟩ := HS8.out.blk 0 rfl 2 _ rfl
              obtain ⟨x3, _⟩ := HS8.out.blk 0 rfl 3 _ rfl
              go_wp2_with fail
              refine (HS8.out.voted 2 rfl HUs.out).mono ?_
              rintro e wv ⟨vdo, vdc, rfl, hown9, hb9⟩
              have HS9 : Hid (SepW W (wv.alloc (.cells #[.int .u64 (vOr A' sl).slot, .int .u64 (vOr A' sl).ballot, .slice vdo (vOr A' sl).val.length vdc] 39)) [obBlk wv.heap.size (.cells #[.int .u64 (vOr A' sl).slot, .int .u64 (vOr A' sl).ballot, .slice vdo (vOr A' sl).val.length vdc] 39), obBlk wr.heap.size (.cells #[.int .i64 kd, .int .u64 sl, .int .u64 b, .slice vo xs.length vc] 32), obBlk WB (.cells #[.int .u64 A'.promised, .int .u64 A'.low, .slice lo L.length lc] 48), obAcc (.pointer (some ⟨b0, 0, none⟩)) D (k + 1) A', obRef (.slice lo L.length lc) L]) := Lib.hid ((HS8.out.step hb9).newBlk #[.int .u64 (vOr A' sl).slot, .int .u64 (vOr A' sl).ballot, .slice vdo (vOr A' sl).val.length vdc] 39)
              have HV9 : Hid (SlR (wv.alloc (.cells #[.int .u64 (vOr A' sl).slot, .int .u64 (vOr A' sl).ballot, .slice vdo (vOr A' sl).val.length vdc] 39)) (.slice vdo (vOr A' sl).val.length vdc) (u8s (vOr A' sl).val)) := Lib.hid ((SlR.of_own hown9).below (below_lit wv _) (Nat.le_refl _))
              clear hown9 hb9 HS8
              go_wp2_with fail
              generalize wv.alloc (.cells #[.int .u64 (vOr A' sl).slot, .int .u64 (vOr A' sl).ballot, .slice vdo (vOr A' sl).val.length vdc] 39) = w9 at *
              generalize wv.heap.size = VB at *
              generalize wr.heap.size = XB at *
              go_loopw [18, 17] (fun i hv wr => ∃ (m : Nat), m ≤ L.length ∧ i = .int .i64 m ∧ hv = .bool (anyK sl L m) ∧ Drew w9 wr) (fun i _ _ => L.length - (intOf i).toNat)
              case atStart => exact ⟨0, by omega, rfl, rfl, Drew.refl _⟩
              case round =>
                obtain ⟨m, hm, rfl, rfl, hdq⟩ := hrel
                have HSq : Hid (SepW W wr [obBlk VB (.cells #[.int .u64 (vOr A' sl).slot, .int .u64 (vOr A' sl).ballot, .slice vdo (vOr A' sl).val.length vdc] 39), obBlk XB (.cells #[.int .i64 kd, .int .u64 sl, .int .u64 b, .slice vo xs.length vc] 32), obBlk WB (.cells #[.int .u64 A'.promised, .int .u64 A'.low, .slice lo L.length lc] 48), obAcc (.pointer (some ⟨b0, 0, none⟩)) D (k + 1) A', obRef (.slice lo L.length lc) L]) := Lib.hid (HS9.out.step hdq.below)
                have HVq := Lib.hid (HV9.out.below hdq.below (Nat.le_refl _))
                have HDq := Lib.hid hdq
                clear hdq
                obtain ⟨x0, _⟩ := HSq.out.blk 1 rfl 0 _ rfl
                obtain ⟨x1, _⟩ := HSq.out.blk 1 rfl 1 _ rfl
                obtain ⟨x2, _⟩ := HSq.out.blk 1 rfl 2 _ rfl
                obtain ⟨x3, _⟩ := HSq.out.blk 1 rfl 3 _ rfl
                obtain ⟨y0, _⟩ := HSq.out.blk 2 rfl 0 _ rfl
                obtain ⟨y1, _⟩ := HSq.out.blk 2 rfl 1 _ rfl
                obtain ⟨y2, _⟩ := HSq.out.blk 2 rfl 2 _ rfl
                by_cases hmL : m < L.length
                · have hmi : (m : Int) < (L.length : Int) := by omega
                  obtain ⟨s, hsm⟩ : ∃ s, L[m]? = some s := ⟨_, List.getElem?_eq_getElem hmL⟩
                  obtain ⟨_, _, hle, hr1, hr2, hrx⟩ := HSq.out.refL 4 rfl
                  cases hle
                  obtain ⟨ra, rfl, r0, r1, r2⟩ := hrx m s hsm
                  have HAk := Lib.hid (anyK_succ (a := sl) hsm)
                  have hlk := look_mem HRA'.out.rise (List.mem_of_getElem? hsm)
                  clear hrx hr1 hr2
                  by_cases hss : s.slot = sl
                  · have hvs : vOr A' sl = s := by unfold vOr; rw [HRA'.out.at_, ← hss, hlk]; rfl
                    obtain ⟨v0, _⟩ := HSq.out.blk 0 rfl 0 _ rfl
                    obtain ⟨v1, _⟩ := HSq.out.blk 0 rfl 1 _ rfl
                    obtain ⟨v2, _⟩ := HSq.out.blk 0 rfl 2 _ rfl
                    have hVq := HVq.out
                    rw [hvs] at v0 v1 v2 hVq
                    have rc : ∀ n : Nat, (convert 30 9 (.slice vdo s.val.length vdc)).run Try.prog (wr.drewN n) = .ok (.string (strB s.val)) (wr.drewN n) := fun n => run_strB Try.underlying30 Try.underlying5 Try.underlying9 (hVq.drewN n)
                    have hd1 : decide (s.slot = sl) = true := decide_eq_true hss
                    have hd2 : (s.slot == sl) = true := by rw [beq_iff_eq]; exact hss
                    have HSS := Lib.hid hss
                    clear hss hvs hVq hlk hsm
                    go_wp2_with fail
                    go_quiet (fail)
                    go_wp2_with fail
                    go_quiet (fail)
                    go_wp2_with fail
                    go_roundw
                    case rel => exact ⟨m + 1, by omega, by go_num, by rw [HAk.out, decide_eq_true HSS.out]; simp, HDq.out.drewN _⟩
                    case measure => simp [intOf]; omega
                  · have hd1 : decide (s.slot = sl) = false := decide_eq_false hss
                    have hd2 : (s.slot == sl) = false := by rw [beq_eq_false_iff_ne]; exact hss
                    have HSS := Lib.hid hss
                    clear hss hlk hsm
                    go_wp2_with fail
                    go_quiet (fail)
                    go_wp2_with fail
                    go_roundw
                    case rel => exact ⟨m + 1, by omega, by go_num, by rw [HAk.out, decide_eq_false HSS.out]; simp, HDq.out.drewN _⟩
                    case measure => simp [intOf]; omega
                · have hml : m = L.length := by omega
                  have hmd : decide ((L.length : Int) < (L.length : Int)) = false := decide_eq_false (by omega)
                  rw [hml, anyK_all, ← HRA'.out.at_]
                  clear hml hmL hm
                  generalize (A'.l sl).isSome = had at *
                  have hee : ((0 : Int) != 0) = false := by simp
                  have hhh : (had != had) = false := by simp
                  go_wp2_with fail
                  go_region_held3 (fun w' => w'.cell? ⟨WB, 0, none⟩ = some (.int .u64 A'.promised) ∧ w'.cell? ⟨WB, 1, none⟩ = some (.int .u64 A'.low)) (first | go_keep)
                    (first
                      | (go_at_call 19; (with_reducible refine ((HSq.out.step (Below.refl wr.heap.size wr).drew).accPromised 3 rfl).mono ?_); rintro e w' ⟨rfl, rfl⟩)
                      | (go_at_call 21; (with_reducible refine ((HSq.out.step (Below.refl wr.heap.size wr).drew).accLow 3 rfl).mono ?_); rintro e w' ⟨rfl, rfl⟩))
                  go_wp2_with fail
                  go_roundw
                  case rel => exact ⟨k + 1, A', L, D, lo, lc, by omega, by omega, by go_num, HRA'.out, by omega, (HSq.out.step (Below.refl wr.heap.size wr).drew).sub ((List.sublist_cons_self _ _).trans (List.sublist_cons_self _ _))⟩
                  case measure => simp [intOf]; omega
        · as_aux_lemma =>
            have hqa : (q == 0) = false := by rw [beq_eq_false_iff_ne]; omega
            have hqb : (q == 1) = true := by rw [beq_iff_eq]; omega
            go_wp2_with fail
            refine (HSx.out.accept 2 rfl (v := ⟨sl, b, xs⟩) (HXs.out.below HSx.out.below (Nat.le_refl _)) HUs.out HUb.out HU8.out (by show xs.length ≤ 1000000; omega) (by omega)).mono ?_
            rintro e wy ⟨rfl, D', hs6⟩
            have HS6 : Hid (SepW W wy [obBlk wr.heap.size (.cells #[.int .i64 kd, .int .u64 sl, .int .u64 b, .slice vo xs.length vc] 32), obBlk WB (.cells #[.int .u64 A.promised, .int .u64 A.low, .slice lo L.length lc] 48), obAcc (.pointer (some ⟨b0, 0, none⟩)) D' (k + 1) (accR A ⟨sl, b, xs⟩), obRef (.slice lo L.length lc) L]) := Lib.hid hs6
            clear hs6
            obtain ⟨x0, _⟩ := HS6.out.blk 0 rfl 0 _ rfl
            obtain ⟨x1, _⟩ := HS6.out.blk 0 rfl 1 _ rfl
            obtain ⟨x2, _⟩ := HS6.out.blk 0 rfl 2 _ rfl
            obtain ⟨x3, _⟩ := HS6.out.blk 0 rfl 3 _ rfl
            obtain ⟨y0, z0⟩ := HS6.out.blk 1 rfl 0 _ rfl
            obtain ⟨y1, z1⟩ := HS6.out.blk 1 rfl 1 _ rfl
            obtain ⟨y2, z2⟩ := HS6.out.blk 1 rfl 2 _ rfl
            have rc : (convert 30 9 (.slice vo xs.length vc)).run Try.prog wy = .ok (.string (strB xs)) wy := run_strB Try.underlying30 Try.underlying5 Try.underlying9 (HXs.out.below HS6.out.below (Nat.le_refl _))
            go_wp2_with fail
            refine (HS6.out.raccept 3 rfl HRA.out ⟨sl, b, xs⟩ (by omega)).mono ?_
            rintro e wz ⟨L', lo', lc', rfl, hra', hll', hs7⟩
            clear x0 x1 x2 x3 y0 y1 y2 z0 z1 z2 rc
            obtain ⟨A', hA'⟩ : ∃ A', A' = accR A ⟨sl, b, xs⟩ := ⟨_, rfl⟩
            rw [← hA'] at hra' hs7 ⊢
            have HS7 : Hid (SepW W wz [obBlk wr.heap.size (.cells #[.int .i64 kd, .int .u64 sl, .int .u64 b, .slice vo xs.length vc] 32), obBlk WB (.cells #[.int .u64 A.promised, .int .u64 A.low, .slice lo L.length lc] 48), obAcc (.pointer (some ⟨b0, 0, none⟩)) D' (k + 1) A', obRef (.slice lo' L'.length lc') L']) := Lib.hid (by rw [hA'] at hs7 ⊢; exact hs7)
            generalize accE A ⟨sl, b, xs⟩ = er at *
            have HRA' := Lib.hid hra'
            clear hs7 hA' hra' HS6
            obtain ⟨x0, _⟩ := HS7.out.blk 0 rfl 0 _ rfl
            obtain ⟨x1, _⟩ := HS7.out.blk 0 rfl 1 _ rfl
            obtain ⟨x2, _⟩ := HS7.out.blk 0 rfl 2 _ rfl
            obtain ⟨x3, _⟩ := HS7.out.blk 0 rfl 3 _ rfl
            obtain ⟨y0, z0⟩ := HS7.out.blk 1 rfl 0 _ rfl
            obtain ⟨y1, z1⟩ := HS7.out.blk 1 rfl 1 _ rfl
            obtain ⟨y2, z2⟩ := HS7.out.blk 1 rfl 2 _ rfl
            have HS8 : Hid (SepW W _ [obBlk wr.heap.size (.cells #[.int .i64 kd, .int .u64 sl, .int .u64 b, .slice vo xs.length vc] 32), obBlk WB (.cells #[.int .u64 A'.promised, .int .u64 A'.low, .slice lo' L'.length lc'] 48), obAcc (.pointer (some ⟨b0, 0, none⟩)) D' (k + 1) A', obRef (.slice lo' L'.length lc') L']) := Lib.hid (HS7.out.blkSet3 1 rfl (.int .u64 A'.promised) (.int .u64 A'.low) (.slice lo' L'.length lc'))
            obtain ⟨x1', _⟩ := HS8.out.blk 0 rfl 1 _ rfl
            simp only [rA]
            go_wp2_with fail
            refine (HS8.out.voted 2 rfl HUs.out).mono ?_
            rintro e wv ⟨vdo, vdc, rfl, hown9, hb9⟩
            have HS9 : Hid (SepW W (wv.alloc (.cells #[.int .u64 (vOr A' sl).slot, .int .u64 (vOr A' sl).ballot, .slice vdo (vOr A' sl).val.length vdc] 39)) [obBlk wv.heap.size (.cells #[.int .u64 (vOr A' sl).slot, .int .u64 (vOr A' sl).ballot, .slice vdo (vOr A' sl).val.length vdc] 39), obBlk wr.heap.size (.cells #[.int .i64 kd, .int .u64 sl, .int .u64 b, .slice vo xs.length vc] 32), obBlk WB (.cells #[.int .u64 A'.promised, .int .u64 A'.low, .slice lo' L'.length lc'] 48), obAcc (.pointer (some ⟨b0, 0, none⟩)) D' (k + 1) A', obRef (.slice lo' L'.length lc') L']) := Lib.hid ((HS8.out.step hb9).newBlk #[.int .u64 (vOr A' sl).slot, .int .u64 (vOr A' sl).ballot, .slice vdo (vOr A' sl).val.length vdc] 39)
            have HV9 : Hid (SlR (wv.alloc (.cells #[.int .u64 (vOr A' sl).slot, .int .u64 (vOr A' sl).ballot, .slice vdo (vOr A' sl).val.length vdc] 39)) (.slice vdo (vOr A' sl).val.length vdc) (u8s (vOr A' sl).val)) := Lib.hid ((SlR.of_own hown9).below (below_lit wv _) (Nat.le_refl _))
            clear hown9 hb9 HS8
            go_wp2_with fail
            generalize wv.alloc (.cells #[.int .u64 (vOr A' sl).slot, .int .u64 (vOr A' sl).ballot, .slice vdo (vOr A' sl).val.length vdc] 39) = w9 at *
            generalize wv.heap.size = VB at *
            generalize wr.heap.size = XB at *
            go_loopw [18, 17] (fun i hv wr => ∃ (m : Nat), m ≤ L'.length ∧ i = .int .i64 m ∧ hv = .bool (anyK sl L' m) ∧ Drew w9 wr) (fun i _ _ => L'.length - (intOf i).toNat)
            case atStart => exact ⟨0, by omega, rfl, rfl, Drew.refl _⟩
            case round =>
              obtain ⟨m, hm, rfl, rfl, hdq⟩ := hrel
              have HSq : Hid (SepW W wr [obBlk VB (.cells #[.int .u64 (vOr A' sl).slot, .int .u64 (vOr A' sl).ballot, .slice vdo (vOr A' sl).val.length vdc] 39), obBlk XB (.cells #[.int .i64 kd, .int .u64 sl, .int .u64 b, .slice vo xs.length vc] 32), obBlk WB (.cells #[.int .u64 A'.promised, .int .u64 A'.low, .slice lo' L'.length lc'] 48), obAcc (.pointer (some ⟨b0, 0, none⟩)) D' (k + 1) A', obRef (.slice lo' L'.length lc') L']) := Lib.hid (HS9.out.step hdq.below)
              have HVq := Lib.hid (HV9.out.below hdq.below (Nat.le_refl _))
              have HDq := Lib.hid hdq
              clear hdq
              obtain ⟨x0, _⟩ := HSq.out.blk 1 rfl 0 _ rfl
              obtain ⟨x1, _⟩ := HSq.out.blk 1 rfl 1 _ rfl
              obtain ⟨x2, _⟩ := HSq.out.blk 1 rfl 2 _ rfl
              obtain ⟨x3, _⟩ := HSq.out.blk 1 rfl 3 _ rfl
              obtain ⟨y0, _⟩ := HSq.out.blk 2 rfl 0 _ rfl
              obtain ⟨y1, _⟩ := HSq.out.blk 2 rfl 1 _ rfl
              obtain ⟨y2, _⟩ := HSq.out.blk 2 rfl 2 _ rfl
              by_cases hmL : m < L'.length
              · have hmi : (m : Int) < (L'.length : Int) := by omega
                obtain ⟨s, hsm⟩ : ∃ s, L'[m]? = some s := ⟨_, List.getElem?_eq_getElem hmL⟩
                obtain ⟨_, _, hle, hr1, hr2, hrx⟩ := HSq.out.refL 4 rfl
                cases hle
                obtain ⟨ra, rfl, r0, r1, r2⟩ := hrx m s hsm
                have HAk := Lib.hid (anyK_succ (a := sl) hsm)
                have hlk := look_mem HRA'.out.rise (List.mem_of_getElem? hsm)
                clear hrx hr1 hr2
                by_cases hss : s.slot = sl
                · have hvs : vOr A' sl = s := by unfold vOr; rw [HRA'.out.at_, ← hss, hlk]; rfl
                  obtain ⟨v0, _⟩ := HSq.out.blk 0 rfl 0 _ rfl
                  obtain ⟨v1, _⟩ := HSq.out.blk 0 rfl 1 _ rfl
                  obtain ⟨v2, _⟩ := HSq.out.blk 0 rfl 2 _ rfl
                  have hVq := HVq.out
                  rw [hvs] at v0 v1 v2 hVq
                  have rc : ∀ n : Nat, (convert 30 9 (.slice vdo s.val.length vdc)).run Try.prog (wr.drewN n) = .ok (.string (strB s.val)) (wr.drewN n) := fun n => run_strB Try.underlying30 Try.underlying5 Try.underlying9 (hVq.drewN n)
                  have hd1 : decide (s.slot = sl) = true := decide_eq_true hss
                  have hd2 : (s.slot == sl) = true := by rw [beq_iff_eq]; exact hss
                  have HSS := Lib.hid hss
                  clear hss hvs hVq hlk hsm
                  go_wp2_with fail
                  go_quiet (fail)
                  go_wp2_with fail
                  go_quiet (fail)
                  go_wp2_with fail
                  go_roundw
                  case rel => exact ⟨m + 1, by omega, by go_num, by rw [HAk.out, decide_eq_true HSS.out]; simp, HDq.out.drewN _⟩
                  case measure => simp [intOf]; omega
                · have hd1 : decide (s.slot = sl) = false := decide_eq_false hss
                  have hd2 : (s.slot == sl) = false := by rw [beq_eq_false_iff_ne]; exact hss
                  have HSS := Lib.hid hss
                  clear hss hlk hsm
                  go_wp2_with fail
                  go_quiet (fail)
                  go_wp2_with fail
                  go_roundw
                  case rel => exact ⟨m + 1, by omega, by go_num, by rw [HAk.out, decide_eq_false HSS.out]; simp, HDq.out.drewN _⟩
                  case measure => simp [intOf]; omega
              · have hml : m = L'.length := by omega
                have hmd : decide ((L'.length : Int) < (L'.length : Int)) = false := decide_eq_false (by omega)
                rw [hml, anyK_all, ← HRA'.out.at_]
                clear hml hmL hm
                generalize (A'.l sl).isSome = had at *
                have hee : (er != er) = false := by simp
                have hhh : (had != had) = false := by simp
                go_wp2_with fail
                go_region_held3 (fun w' => w'.cell? ⟨WB, 0, none⟩ = some (.int .u64 A'.promised) ∧ w'.cell? ⟨WB, 1, none⟩ = some (.int .u64 A'.low)) (first | go_keep)
                  (first
                    | (go_at_call 19; (with_reducible refine ((HSq.out.step (Below.refl wr.heap.size wr).drew).accPromised 3 rfl).mono ?_); rintro e w' ⟨rfl, rfl⟩)
                    | (go_at_call 21; (with_reducible refine ((HSq.out.step (Below.refl wr.heap.size wr).drew).accLow 3 rfl).mono ?_); rintro e w' ⟨rfl, rfl⟩))
                go_wp2_with fail
                go_roundw
                case rel => exact ⟨k + 1, A', L', D', lo', lc', by omega, by omega, by go_num, HRA'.out, by omega, (HSq.out.step (Below.refl wr.heap.size wr).drew).sub ((List.sublist_cons_self _ _).trans (List.sublist_cons_self _ _))⟩
                case measure => simp [intOf]; omega
        · as_aux_lemma =>
            have hqa : (q == 0) = false := by rw [beq_eq_false_iff_ne]; omega
            have hqb : (q == 1) = false := by rw [beq_eq_false_iff_ne]; omega
            have hqc : (q == 2) = true := by rw [beq_iff_eq]; omega
            go_wp2_with fail
            refine (HSx.out.accept 2 rfl (v := ⟨sl, b, xs⟩) (HXs.out.below HSx.out.below (Nat.le_refl _)) HUs.out HUb.out HU8.out (by show xs.length ≤ 1000000; omega) (by omega)).mono ?_
            rintro e wy ⟨rfl, D', hs6⟩
            have HS6 : Hid (SepW W wy [obBlk wr.heap.size (.cells #[.int .i64 kd, .int .u64 sl, .int .u64 b, .slice vo xs.length vc] 32), obBlk WB (.cells #[.int .u64 A.promised, .int .u64 A.low, .slice lo L.length lc] 48), obAcc (.pointer (some ⟨b0, 0, none⟩)) D' (k + 1) (accR A ⟨sl, b, xs⟩), obRef (.slice lo L.length lc) L]) := Lib.hid hs6
            clear hs6
            obtain ⟨x0, _⟩ := HS6.out.blk 0 rfl 0 _ rfl
            obtain ⟨x1, _⟩ := HS6.out.blk 0 rfl 1 _ rfl
            obtain ⟨x2, _⟩ := HS6.out.blk 0 rfl 2 _ rfl
            obtain ⟨x3, _⟩ := HS6.out.blk 0 rfl 3 _ rfl
            obtain ⟨y0, z0⟩ := HS6.out.blk 1 rfl 0 _ rfl
            obtain ⟨y1, z1⟩ := HS6.out.blk 1 rfl 1 _ rfl
            obtain ⟨y2, z2⟩ := HS6.out.blk 1 rfl 2 _ rfl
            have rc : (convert 30 9 (.slice vo xs.length vc)).run Try.prog wy = .ok (.string (strB xs)) wy := run_strB Try.underlying30 Try.underlying5 Try.underlying9 (HXs.out.below HS6.out.below (Nat.le_refl _))
            go_wp2_with fail
            refine (HS6.out.raccept 3 rfl HRA.out ⟨sl, b, xs⟩ (by omega)).mono ?_
            rintro e wz ⟨L', lo', lc', rfl, hra', hll', hs7⟩
            clear x0 x1 x2 x3 y0 y1 y2 z0 z1 z2 rc
            obtain ⟨A', hA'⟩ : ∃ A', A' = accR A ⟨sl, b, xs⟩ := ⟨_, rfl⟩
            rw [← hA'] at hra' hs7 ⊢
            have HS7 : Hid (SepW W wz [obBlk wr.heap.size (.cells #[.int .i64 kd, .int .u64 sl, .int .u64 b, .slice vo xs.length vc] 32), obBlk WB (.cells #[.int .u64 A.promised, .int .u64 A.low, .slice lo L.length lc] 48), obAcc (.pointer (some ⟨b0, 0, none⟩)) D' (k + 1) A', obRef (.slice lo' L'.length lc') L']) := Lib.hid (by rw [hA'] at hs7 ⊢; exact hs7)
            generalize accE A ⟨sl, b, xs⟩ = er at *
            have HRA' := Lib.hid hra'
            clear hs7 hA' hra' HS6
            obtain ⟨x0, _⟩ := HS7.out.blk 0 rfl 0 _ rfl
            obtain ⟨x1, _⟩ := HS7.out.blk 0 rfl 1 _ rfl
            obtain ⟨x2, _⟩ := HS7.out.blk 0 rfl 2 _ rfl
            obtain ⟨x3, _⟩ := HS7.out.blk 0 rfl 3 _ rfl
            obtain ⟨y0, z0⟩ := HS7.out.blk 1 rfl 0 _ rfl
            obtain ⟨y1, z1⟩ := HS7.out.blk 1 rfl 1 _ rfl
            obtain ⟨y2, z2⟩ := HS7.out.blk 1 rfl 2 _ rfl
            have HS8 : Hid (SepW W _ [obBlk wr.heap.size (.cells #[.int .i64 kd, .int .u64 sl, .int .u64 b, .slice vo xs.length vc] 32), obBlk WB (.cells #[.int .u64 A'.promised, .int .u64 A'.low, .slice lo' L'.length lc'] 48), obAcc (.pointer (some ⟨b0, 0, none⟩)) D' (k + 1) A', obRef (.slice lo' L'.length lc') L']) := Lib.hid (HS7.out.blkSet3 1 rfl (.int .u64 A'.promised) (.int .u64 A'.low) (.slice lo' L'.length lc'))
            obtain ⟨x1', _⟩ := HS8.out.blk 0 rfl 1 _ rfl
            simp only [rA]
            go_wp2_with fail
            refine (HS8.out.voted 2 rfl HUs.out).mono ?_
            rintro e wv ⟨vdo, vdc, rfl, hown9, hb9⟩
            have HS9 : Hid (SepW W (wv.alloc (.cells #[.int .u64 (vOr A' sl).slot, .int .u64 (vOr A' sl).ballot, .slice vdo (vOr A' sl).val.length vdc] 39)) [obBlk wv.heap.size (.cells #[.int .u64 (vOr A' sl).slot, .int .u64 (vOr A' sl).ballot, .slice vdo (vOr A' sl).val.length vdc] 39), obBlk wr.heap.size (.cells #[.int .i64 kd, .int .u64 sl, .int .u64 b, .slice vo xs.length vc] 32), obBlk WB (.cells #[.int .u64 A'.promised, .int .u64 A'.low, .slice lo' L'.length lc'] 48), obAcc (.pointer (some ⟨b0, 0, none⟩)) D' (k + 1) A', obRef (.slice lo' L'.length lc') L']) := Lib.hid ((HS8.out.step hb9).newBlk #[.int .u64 (vOr A' sl).slot, .int .u64 (vOr A' sl).ballot, .slice vdo (vOr A' sl).val.length vdc] 39)
            have HV9 : Hid (SlR (wv.alloc (.cells #[.int .u64 (vOr A' sl).slot, .int .u64 (vOr A' sl).ballot, .slice vdo (vOr A' sl).val.length vdc] 39)) (.slice vdo (vOr A' sl).val.length vdc) (u8s (vOr A' sl).val)) := Lib.hid ((SlR.of_own hown9).below (below_lit wv _) (Nat.le_refl _))
            clear hown9 hb9 HS8
            go_wp2_with fail
            generalize wv.alloc (.cells #[.int .u64 (vOr A' sl).slot, .int .u64 (vOr A' sl).ballot, .slice vdo (vOr A' sl).val.length vdc] 39) = w9 at *
            generalize wv.heap.size = VB at *
            generalize wr.heap.size = XB at *
            go_loopw [18, 17] (fun i hv wr => ∃ (m : Nat), m ≤ L'.length ∧ i = .int .i64 m ∧ hv = .bool (anyK sl L' m) ∧ Drew w9 wr) (fun i _ _ => L'.length - (intOf i).toNat)
            case atStart => exact ⟨0, by omega, rfl, rfl, Drew.refl _⟩
            case round =>
              obtain ⟨m, hm, rfl, rfl, hdq⟩ := hrel
              have HSq : Hid (SepW W wr [obBlk VB (.cells #[.int .u64 (vOr A' sl).slot, .int .u64 (vOr A' sl).ballot, .slice vdo (vOr A' sl).val.length vdc] 39), obBlk XB (.cells #[.int .i64 kd, .int .u64 sl, .int .u64 b, .slice vo xs.length vc] 32), obBlk WB (.cells #[.int .u64 A'.promised, .int .u64 A'.low, .slice lo' L'.length lc'] 48), obAcc (.pointer (some ⟨b0, 0, none⟩)) D' (k + 1) A', obRef (.slice lo' L'.length lc') L']) := Lib.hid (HS9.out.step hdq.below)
              have HVq := Lib.hid (HV9.out.below hdq.below (Nat.le_refl _))
              have HDq := Lib.hid hdq
              clear hdq
              obtain ⟨x0, _⟩ := HSq.out.blk 1 rfl 0 _ rfl
              obtain ⟨x1, _⟩ := HSq.out.blk 1 rfl 1 _ rfl
              obtain ⟨x2, _⟩ := HSq.out.blk 1 rfl 2 _ rfl
              obtain ⟨x3, _⟩ := HSq.out.blk 1 rfl 3 _ rfl
              obtain ⟨y0, _⟩ := HSq.out.blk 2 rfl 0 _ rfl
              obtain ⟨y1, _⟩ := HSq.out.blk 2 rfl 1 _ rfl
              obtain ⟨y2, _⟩ := HSq.out.blk 2 rfl 2 _ rfl
              by_cases hmL : m < L'.length
              · have hmi : (m : Int) < (L'.length : Int) := by omega
                obtain ⟨s, hsm⟩ : ∃ s, L'[m]? = some s := ⟨_, List.getElem?_eq_getElem hmL⟩
                obtain ⟨_, _, hle, hr1, hr2, hrx⟩ := HSq.out.refL 4 rfl
                cases hle
                obtain ⟨ra, rfl, r0, r1, r2⟩ := hrx m s hsm
                have HAk := Lib.hid (anyK_succ (a := sl) hsm)
                have hlk := look_mem HRA'.out.rise (List.mem_of_getElem? hsm)
                clear hrx hr1 hr2
                by_cases hss : s.slot = sl
                · have hvs : vOr A' sl = s := by unfold vOr; rw [HRA'.out.at_, ← hss, hlk]; rfl
                  obtain ⟨v0, _⟩ := HSq.out.blk 0 rfl 0 _ rfl
                  obtain ⟨v1, _⟩ := HSq.out.blk 0 rfl 1 _ rfl
                  obtain ⟨v2, _⟩ := HSq.out.blk 0 rfl 2 _ rfl
                  have hVq := HVq.out
                  rw [hvs] at v0 v1 v2 hVq
                  have rc : ∀ n : Nat, (convert 30 9 (.slice vdo s.val.length vdc)).run Try.prog (wr.drewN n) = .ok (.string (strB s.val)) (wr.drewN n) := fun n => run_strB Try.underlying30 Try.underlying5 Try.underlying9 (hVq.drewN n)
                  have hd1 : decide (s.slot = sl) = true := decide_eq_true hss
                  have hd2 : (s.slot == sl) = true := by rw [beq_iff_eq]; exact hss
                  have HSS := Lib.hid hss
                  clear hss hvs hVq hlk hsm
                  go_wp2_with fail
                  go_quiet (fail)
                  go_wp2_with fail
                  go_quiet (fail)
                  go_wp2_with fail
                  go_roundw
                  case rel => exact ⟨m + 1, by omega, by go_num, by rw [HAk.out, decide_eq_true HSS.out]; simp, HDq.out.drewN _⟩
                  case measure => simp [intOf]; omega
                · have hd1 : decide (s.slot = sl) = false := decide_eq_false hss
                  have hd2 : (s.slot == sl) = false := by rw [beq_eq_false_iff_ne]; exact hss
                  have HSS := Lib.hid hss
                  clear hss hlk hsm
                  go_wp2_with fail
                  go_quiet (fail)
                  go_wp2_with fail
                  go_roundw
                  case rel => exact ⟨m + 1, by omega, by go_num, by rw [HAk.out, decide_eq_false HSS.out]; simp, HDq.out.drewN _⟩
                  case measure => simp [intOf]; omega
              · have hml : m = L'.length := by omega
                have hmd : decide ((L'.length : Int) < (L'.length : Int)) = false := decide_eq_false (by omega)
                rw [hml, anyK_all, ← HRA'.out.at_]
                clear hml hmL hm
                generalize (A'.l sl).isSome = had at *
                have hee : (er != er) = false := by simp
                have hhh : (had != had) = false := by simp
                go_wp2_with fail
                go_region_held3 (fun w' => w'.cell? ⟨WB, 0, none⟩ = some (.int .u64 A'.promised) ∧ w'.cell? ⟨WB, 1, none⟩ = some (.int .u64 A'.low)) (first | go_keep)
                  (first
                    | (go_at_call 19; (with_reducible refine ((HSq.out.step (Below.refl wr.heap.size wr).drew).accPromised 3 rfl).mono ?_); rintro e w' ⟨rfl, rfl⟩)
                    | (go_at_call 21; (with_reducible refine ((HSq.out.step (Below.refl wr.heap.size wr).drew).accLow 3 rfl).mono ?_); rintro e w' ⟨rfl, rfl⟩))
                go_wp2_with fail
                go_roundw
                case rel => exact ⟨k + 1, A', L', D', lo', lc', by omega, by omega, by go_num, HRA'.out, by omega, (HSq.out.step (Below.refl wr.heap.size wr).drew).sub ((List.sublist_cons_self _ _).trans (List.sublist_cons_self _ _))⟩
                case measure => simp [intOf]; omega
        · as_aux_lemma =>
            have hqa : (q == 0) = false := by rw [beq_eq_false_iff_ne]; omega
            have hqb : (q == 1) = false := by rw [beq_eq_false_iff_ne]; omega
            have hqc : (q == 2) = false := by rw [beq_eq_false_iff_ne]; omega
            go_wp2_with fail
            refine (HSx.out.forget 2 rfl HUs.out).mono ?_
            rintro e wy ⟨rfl, hs6⟩
            have HS6 : Hid (SepW W wy [obBlk wr.heap.size (.cells #[.int .i64 kd, .int .u64 sl, .int .u64 b, .slice vo xs.length vc] 32), obBlk WB (.cells #[.int .u64 A.promised, .int .u64 A.low, .slice lo L.length lc] 48), obAcc (.pointer (some ⟨b0, 0, none⟩)) D (k + 1) (forgA A sl), obRef (.slice lo L.length lc) L]) := Lib.hid (hs6.accMono 2 rfl (Nat.le_succ k))
            clear hs6
            obtain ⟨x0, _⟩ := HS6.out.blk 0 rfl 0 _ rfl
            obtain ⟨x1, _⟩ := HS6.out.blk 0 rfl 1 _ rfl
            obtain ⟨x2, _⟩ := HS6.out.blk 0 rfl 2 _ rfl
            obtain ⟨x3, _⟩ := HS6.out.blk 0 rfl 3 _ rfl
            obtain ⟨y0, z0⟩ := HS6.out.blk 1 rfl 0 _ rfl
            obtain ⟨y1, z1⟩ := HS6.out.blk 1 rfl 1 _ rfl
            obtain ⟨y2, z2⟩ := HS6.out.blk 1 rfl 2 _ rfl
            go_wp2_with fail
            refine (HS6.out.rforget 3 rfl HRA.out sl (by omega)).mono ?_
            rintro e wz ⟨L', lo', lc', rfl, hra', hll', hs7⟩
            clear x0 x1 x2 x3 y0 y1 y2 z0 z1 z2
            obtain ⟨A', hA'⟩ : ∃ A', A' = forgA A sl := ⟨_, rfl⟩
            rw [← hA'] at hra' hs7 ⊢
            have HS7 : Hid (SepW W wz [obBlk wr.heap.size (.cells #[.int .i64 kd, .int .u64 sl, .int .u64 b, .slice vo xs.length vc] 32), obBlk WB (.cells #[.int .u64 A.promised, .int .u64 A.low, .slice lo L.length lc] 48), obAcc (.pointer (some ⟨b0, 0, none⟩)) D (k + 1) A', obRef (.slice lo' L'.length lc') L']) := Lib.hid (by rw [hA'] at hs7 ⊢; exact hs7)
            have HRA' := Lib.hid hra'
            clear hs7 hA' hra' HS6
            obtain ⟨x0, _⟩ := HS7.out.blk 0 rfl 0 _ rfl
            obtain ⟨x1, _⟩ := HS7.out.blk 0 rfl 1 _ rfl
            obtain ⟨x2, _⟩ := HS7.out.blk 0 rfl 2 _ rfl
            obtain ⟨x3, _⟩ := HS7.out.blk 0 rfl 3 _ rfl
            obtain ⟨y0, z0⟩ := HS7.out.blk 1 rfl 0 _ rfl
            obtain ⟨y1, z1⟩ := HS7.out.blk 1 rfl 1 _ rfl
            obtain ⟨y2, z2⟩ := HS7.out.blk 1 rfl 2 _ rfl
            have HS8 : Hid (SepW W _ [obBlk wr.heap.size (.cells #[.int .i64 kd, .int .u64 sl, .int .u64 b, .slice vo xs.length vc] 32), obBlk WB (.cells #[.int .u64 A'.promised, .int .u64 A'.low, .slice lo' L'.length lc'] 48), obAcc (.pointer (some ⟨b0, 0, none⟩)) D (k + 1) A', obRef (.slice lo' L'.length lc') L']) := Lib.hid (HS7.out.blkSet3 1 rfl (.int .u64 A'.promised) (.int .u64 A'.low) (.slice lo' L'.length lc'))
            obtain ⟨x1', _⟩ := HS8.out.blk 0 rfl 1 _ rfl
            simp only [rA]
            go_wp2_with fail
            refine (HS8.out.voted 2 rfl HUs.out).mono ?_
            rintro e wv ⟨vdo, vdc, rfl, hown9, hb9⟩
            have HS9 : Hid (SepW W (wv.alloc (.cells #[.int .u64 (vOr A' sl).slot, .int .u64 (vOr A' sl).ballot, .slice vdo (vOr A' sl).val.length vdc] 39)) [obBlk wv.heap.size (.cells #[.int .u64 (vOr A' sl).slot, .int .u64 (vOr A' sl).ballot, .slice vdo (vOr A' sl).val.length vdc] 39), obBlk wr.heap.size (.cells #[.int .i64 kd, .int .u64 sl, .int .u64 b, .slice vo xs.length vc] 32), obBlk WB (.cells #[.int .u64 A'.promised, .int .u64 A'.low, .slice lo' L'.length lc'] 48), obAcc (.pointer (some ⟨b0, 0, none⟩)) D (k + 1) A', obRef (.slice lo' L'.length lc') L']) := Lib.hid ((HS8.out.step hb9).newBlk #[.int .u64 (vOr A' sl).slot, .int .u64 (vOr A' sl).ballot, .slice vdo (vOr A' sl).val.length vdc] 39)
            have HV9 : Hid (SlR (wv.alloc (.cells #[.int .u64 (vOr A' sl).slot, .int .u64 (vOr A' sl).ballot, .slice vdo (vOr A' sl).val.length vdc] 39)) (.slice vdo (vOr A' sl).val.length vdc) (u8s (vOr A' sl).val)) := Lib.hid ((SlR.of_own hown9).below (below_lit wv _) (Nat.le_refl _))
            clear hown9 hb9 HS8
            go_wp2_with fail
            generalize wv.alloc (.cells #[.int .u64 (vOr A' sl).slot, .int .u64 (vOr A' sl).ballot, .slice vdo (vOr A' sl).val.length vdc] 39) = w9 at *
            generalize wv.heap.size = VB at *
            generalize wr.heap.size = XB at *
            go_loopw [18, 17] (fun i hv wr => ∃ (m : Nat), m ≤ L'.length ∧ i = .int .i64 m ∧ hv = .bool (anyK sl L' m) ∧ Drew w9 wr) (fun i _ _ => L'.length - (intOf i).toNat)
            case atStart => exact ⟨0, by omega, rfl, rfl, Drew.refl _⟩
            case round =>
              obtain ⟨m, hm, rfl, rfl, hdq⟩ := hrel
              have HSq : Hid (SepW W wr [obBlk VB (.cells #[.int .u64 (vOr A' sl).slot, .int .u64 (vOr A' sl).ballot, .slice vdo (vOr A' sl).val.length vdc] 39), obBlk XB (.cells #[.int .i64 kd, .int .u64 sl, .int .u64 b, .slice vo xs.length vc] 32), obBlk WB (.cells #[.int .u64 A'.promised, .int .u64 A'.low, .slice lo' L'.length lc'] 48), obAcc (.pointer (some ⟨b0, 0, none⟩)) D (k + 1) A', obRef (.slice lo' L'.length lc') L']) := Lib.hid (HS9.out.step hdq.below)
              have HVq := Lib.hid (HV9.out.below hdq.below (Nat.le_refl _))
              have HDq := Lib.hid hdq
              clear hdq
              obtain ⟨x0, _⟩ := HSq.out.blk 1 rfl 0 _ rfl
              obtain ⟨x1, _⟩ := HSq.out.blk 1 rfl 1 _ rfl
              obtain ⟨x2, _⟩ := HSq.out.blk 1 rfl 2 _ rfl
              obtain ⟨x3, _⟩ := HSq.out.blk 1 rfl 3 _ rfl
              obtain ⟨y0, _⟩ := HSq.out.blk 2 rfl 0 _ rfl
              obtain ⟨y1, _⟩ := HSq.out.blk 2 rfl 1 _ rfl
              obtain ⟨y2, _⟩ := HSq.out.blk 2 rfl 2 _ rfl
              by_cases hmL : m < L'.length
              · have hmi : (m : Int) < (L'.length : Int) := by omega
                obtain ⟨s, hsm⟩ : ∃ s, L'[m]? = some s := ⟨_, List.getElem?_eq_getElem hmL⟩
                obtain ⟨_, _, hle, hr1, hr2, hrx⟩ := HSq.out.refL 4 rfl
                cases hle
                obtain ⟨ra, rfl, r0, r1, r2⟩ := hrx m s hsm
                have HAk := Lib.hid (anyK_succ (a := sl) hsm)
                have hlk := look_mem HRA'.out.rise (List.mem_of_getElem? hsm)
                clear hrx hr1 hr2
                by_cases hss : s.slot = sl
                · have hvs : vOr A' sl = s := by unfold vOr; rw [HRA'.out.at_, ← hss, hlk]; rfl
                  obtain ⟨v0, _⟩ := HSq.out.blk 0 rfl 0 _ rfl
                  obtain ⟨v1, _⟩ := HSq.out.blk 0 rfl 1 _ rfl
                  obtain ⟨v2, _⟩ := HSq.out.blk 0 rfl 2 _ rfl
                  have hVq := HVq.out
                  rw [hvs] at v0 v1 v2 hVq
                  have rc : ∀ n : Nat, (convert 30 9 (.slice vdo s.val.length vdc)).run Try.prog (wr.drewN n) = .ok (.string (strB s.val)) (wr.drewN n) := fun n => run_strB Try.underlying30 Try.underlying5 Try.underlying9 (hVq.drewN n)
                  have hd1 : decide (s.slot = sl) = true := decide_eq_true hss
                  have hd2 : (s.slot == sl) = true := by rw [beq_iff_eq]; exact hss
                  have HSS := Lib.hid hss
                  clear hss hvs hVq hlk hsm
                  go_wp2_with fail
                  go_quiet (fail)
                  go_wp2_with fail
                  go_quiet (fail)
                  go_wp2_with fail
                  go_roundw
                  case rel => exact ⟨m + 1, by omega, by go_num, by rw [HAk.out, decide_eq_true HSS.out]; simp, HDq.out.drewN _⟩
                  case measure => simp [intOf]; omega
                · have hd1 : decide (s.slot = sl) = false := decide_eq_false hss
                  have hd2 : (s.slot == sl) = false := by rw [beq_eq_false_iff_ne]; exact hss
                  have HSS := Lib.hid hss
                  clear hss hlk hsm
                  go_wp2_with fail
                  go_quiet (fail)
                  go_wp2_with fail
                  go_roundw
                  case rel => exact ⟨m + 1, by omega, by go_num, by rw [HAk.out, decide_eq_false HSS.out]; simp, HDq.out.drewN _⟩
                  case measure => simp [intOf]; omega
              · have hml : m = L'.length := by omega
                have hmd : decide ((L'.length : Int) < (L'.length : Int)) = false := decide_eq_false (by omega)
                rw [hml, anyK_all, ← HRA'.out.at_]
                clear hml hmL hm
                generalize (A'.l sl).isSome = had at *
                have hee : ((0 : Int) != 0) = false := by simp
                have hhh : (had != had) = false := by simp
                go_wp2_with fail
                go_region_held3 (fun w' => w'.cell? ⟨WB, 0, none⟩ = some (.int .u64 A'.promised) ∧ w'.cell? ⟨WB, 1, none⟩ = some (.int .u64 A'.low)) (first | go_keep)
                  (first
                    | (go_at_call 19; (with_reducible refine ((HSq.out.step (Below.refl wr.heap.size wr).drew).accPromised 3 rfl).mono ?_); rintro e w' ⟨rfl, rfl⟩)
                    | (go_at_call 21; (with_reducible refine ((HSq.out.step (Below.refl wr.heap.size wr).drew).accLow 3 rfl).mono ?_); rintro e w' ⟨rfl, rfl⟩))
                go_wp2_with fail
                go_roundw
                case rel => exact ⟨k + 1, A', L', D, lo', lc', by omega, by omega, by go_num, HRA'.out, by omega, (HSq.out.step (Below.refl wr.heap.size wr).drew).sub ((List.sublist_cons_self _ _).trans (List.sublist_cons_self _ _))⟩
                case measure => simp [intOf]; omega
      · have hle60 : (60 : Int) < (xs.length : Int) := by omega
        go_wp2_with fail
        go_ret
        exact ⟨rfl, HSx.out.below⟩
    · rcases Nat.lt_or_ge k L0.length with hex | hex
      · as_aux_lemma =>
          have hkk : decide ((k : Int) < 40) = false := decide_eq_false (by omega)
          have hkk2 : decide (k < 40) = false := decide_eq_false (by omega)
          have hkk3 : (k : Int) < (L0.length : Int) := by omega
          have hkk4 : decide ((k : Int) < (L0.length : Int)) = true := decide_eq_true hkk3
          have HSe := HSk
          clear H0 HW hlt
          go_wp2_with fail
          refine (nil_forget wr 1).mono ?_
          rintro e wa ⟨rfl, hba⟩
          have HSa := Lib.hid (HSe.out.step hba)
          clear hba
          go_wp2_with fail
          refine (nil_prepare wa 1 0).mono ?_
          rintro e wb ⟨rfl, rfl⟩
          go_wp2_with fail
          refine (nil_voted wa 0).mono ?_
          rintro e wc ⟨rfl, hbc⟩
          have HSc := Lib.hid ((HSa.out.step hbc).newBlk #[.int .u64 0, .int .u64 0, .slice none 0 0] 39)
          clear hbc
          go_wp2_with fail
          refine (nil_accept _).mono ?_
          rintro e wd ⟨rfl, hbd⟩
          have HSd := Lib.hid (HSc.out.step hbd)
          clear hbd
          go_wp2_with fail
          refine (nil_promised _).mono ?_
          rintro e we ⟨rfl, rfl⟩
          go_wp2_with fail
          refine (nil_low _).mono ?_
          rintro e wf ⟨rfl, rfl⟩
          go_wp2_with fail
          go_ret
          exact ⟨rfl, HSd.out.below⟩
      · as_aux_lemma =>
          have hkk : decide ((k : Int) < (L0.length : Int)) = false := decide_eq_false (by omega)
          have hkk2 : decide (k < L0.length) = false := decide_eq_false (by omega)
          clear hex
          have HSe := HSk
          clear H0 HW hlt
          go_wp2_with fail
          refine (nil_forget wr 1).mono ?_
          rintro e wa ⟨rfl, hba⟩
          have HSa := Lib.hid (HSe.out.step hba)
          clear hba
          go_wp2_with fail
          refine (nil_prepare wa 1 0).mono ?_
          rintro e wb ⟨rfl, rfl⟩
          go_wp2_with fail
          refine (nil_voted wa 0).mono ?_
          rintro e wc ⟨rfl, hbc⟩
          have HSc := Lib.hid ((HSa.out.step hbc).newBlk #[.int .u64 0, .int .u64 0, .slice none 0 0] 39)
          clear hbc
          go_wp2_with fail
          refine (nil_accept _).mono ?_
          rintro e wd ⟨rfl, hbd⟩
          have HSd := Lib.hid (HSc.out.step hbd)
          clear hbd
          go_wp2_with fail
          refine (nil_promised _).mono ?_
          rintro e we ⟨rfl, rfl⟩
          go_wp2_with fail
          refine (nil_low _).mono ?_
          rintro e wf ⟨rfl, rfl⟩
          go_wp2_with fail
          go_ret
          exact ⟨rfl, HSd.out.below⟩
theorem acceptorPlays_holds : Rows.AcceptorPlaysSaid :=
  OpenClaim.holds_of_wide 6 Try.f6 rfl rfl rfl rfl rfl rfl rfl ⟨rfl, rfl, rfl, rfl, rfl⟩ rfl rfl rfl rfl rfl (by kernel_rfl) Try.func6 (by kernel_rfl)
    (of_decide_eq_true (by kernel_rfl)) (by unfold Func.isWrapper; rw [if_neg (by decide +kernel)]; exact ⟨rfl, rfl⟩)
    (fun os started H enc _ => law_frame (C := Try.checked) (fn := Try.f6) (s := Rows.acceptorPlaysSpec) (tb := 4) Try.own started (by kernel_rfl) Try.func6 Try.laidOut rfl (by kernel_rfl) Try.underlying4 (by kernel_rfl)
      (fun ds hd => by match ds, hd with | [_], _ => exact ⟨rfl, rfl, rfl⟩)
      (ChangeSpec.witness6 (enc := enc) (C := Try.checked) false ⟨#[], #[.slice none 0 0], []⟩ 8 (by kernel_rfl) (by kernel_rfl) (by kernel_rfl) (by kernel_rfl))
      (fun W base args ds p hval0 hA0 _ => by
        have hval : ∀ (j : Nat) t v, Try.f6.params[j]? = some t → args[j]? = some v → Value.okWide Try.prog W .any base t v := hval0
        have hA : DataW.TrodAll enc Try.prog W 0 (fun _ => true) true Try.f6.params.toList args.toList ds p := hA0
        rw [Try.params6] at hA hval
        obtain ⟨v0, d0, rfl, rfl, h0⟩ := trodAll_one hA
        obtain ⟨x0, hx0, wx0⟩ := Try.act_open (hval 0 22 v0 rfl rfl) h0
        exact acceptorPlays_walk hx0 wx0))

end Go.Proofs.Ytjdjfhioobhcjaa
