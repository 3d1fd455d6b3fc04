/-
  AcceptorKeeps: whatever is prepared and voted for: what was promised never sinks; of a slot the vote of the greatest ballot that went through is told. No condition: every input.
-/
import Derived.Test.YtjdjfhioobhcjaaAccR
import Derived.Test.YtjdjfhioobhcjaaFrame
namespace Go.Proofs.Ytjdjfhioobhcjaa
open Go.ChangeShapes Go.WideShapes Go.ChangeAt Go.RowKit Go.Maps
set_option maxRecDepth 100000

/-- A vote put at its slot. -/
def putV (v : Int → Option Vt) (j : Int) (x : Vt) : Int → Option Vt := fun a => if a = j then some x else v a
def vB (v : Int → Option Vt) (i : Nat) : Value := .int .u64 ((v (i : Int)).getD ⟨0, 0, []⟩).ballot
def vS (v : Int → Option Vt) (i : Nat) : Value := .string (strB ((v (i : Int)).getD ⟨0, 0, []⟩).val)
def vI (v : Int → Option Vt) (i : Nat) : Value := .bool (v (i : Int)).isSome
/-- Votes stand at their own slots, of which there are eight. -/
def InV (v : Int → Option Vt) : Prop := ∀ a x, v a = some x → (0 ≤ a ∧ a < 8) ∧ x.slot = a
theorem putV_in {v : Int → Option Vt} {j : Nat} {x : Vt} (h : InV v) (hj : j < 8) (hx : x.slot = j) : InV (putV v j x) := by
  intro a y ha
  unfold putV at ha
  split at ha
  · rename_i e
    cases ha
    exact ⟨by omega, by rw [hx, e]⟩
  · exact h a y ha
theorem vB_put (v : Int → Option Vt) (j : Nat) (x : Vt) (i : Nat) : (if i = j then .int .u64 x.ballot else vB v i) = vB (putV v j x) i := by
  unfold vB putV
  by_cases h : i = j
  · subst h; simp
  · rw [if_neg h, if_neg (by omega)]
theorem vS_put (v : Int → Option Vt) (j : Nat) (x : Vt) (i : Nat) : (if i = j then .string (strB x.val) else vS v i) = vS (putV v j x) i := by
  unfold vS putV
  by_cases h : i = j
  · subst h; simp
  · rw [if_neg h, if_neg (by omega)]
theorem vI_put (v : Int → Option Vt) (j : Nat) (x : Vt) (i : Nat) : (if i = j then .bool true else vI v i) = vI (putV v j x) i := by
  unfold vI putV
  by_cases h : i = j
  · subst h; simp
  · rw [if_neg h, if_neg (by omega)]
/-- The votes that are told. -/
def pV (v : Int → Option Vt) (k : Nat) : Bool := (v (k : Int)).isSome
def nV (v : Int → Option Vt) (k : Nat) : Nat := ((List.range k).filter (pV v)).length
def gV (v : Int → Option Vt) (k : Nat) : Vt := (v (k : Int)).getD ⟨0, 0, []⟩
theorem told_V {v : Int → Option Vt} {ks : List Int} (h : IsKeys v ks) (hv : InV v) : votL v ks 0 = ((List.range 8).filter (pV v)).map (gV v) := by
  rw [votL_range (M := 8) h (fun a ha => by obtain ⟨x, hx⟩ := Option.isSome_iff_exists.1 ha; exact (hv a x hx).1)]
  have e1 : ∀ k : Nat, ((v (k : Int)).isSome && decide ((0 : Int) ≤ (k : Int))) = pV v k := fun k => by
    unfold pV
    simp
  simp only [e1]
  rfl
theorem told_at {v : Int → Option Vt} {k : Nat} (hk : k < 8) (hp : pV v k = true) : (((List.range 8).filter (pV v)).map (gV v))[nV v k]? = some (gV v k) := by
  rw [List.getElem?_map, nV, filter_at _ hk hp]; rfl
theorem told_len (v : Int → Option Vt) : (((List.range 8).filter (pV v)).map (gV v)).length = nV v 8 := by rw [List.length_map]; rfl
theorem told_lt {v : Int → Option Vt} {k : Nat} (hk : k < 8) (hp : pV v k = true) : nV v k < nV v 8 := by
  have := (List.getElem?_eq_some_iff.1 (told_at hk hp)).1
  rwa [told_len] at this
theorem nV_le (v : Int → Option Vt) (k : Nat) : nV v k ≤ k := by
  unfold nV
  have := List.length_filter_le (pV v) (List.range k)
  simpa using this
theorem and7 {z : Int} (h : U1 z) : bits BinOp.and IntKind.u64 z 7 = z % 8 := bits_mask .u64 64 (by decide) (fun n h0 h1 => IntWalk.u64_in n (by constructor <;> omega)) 3 (by decide) z h.1 (by have := h.2; omega)

section
variable {W w : World} {os : List Ob}
theorem SepW.blk (h : SepW W w os) {b : Nat} {cs : Array Value} {t : TypeId} (i : Nat) (hi : os[i]? = some (obBlk b (.cells cs t))) (j : Nat) (u : Value) (hu : cs.toList[j]? = some u) : w.cell? ⟨b, j, none⟩ = some u ∧ w.frozen? ⟨b, j, none⟩ = false := by
  have hb : w.heap[b]? = some (.cells cs t (0, 0)) := h.get i hi
  refine ⟨by simpa [World.cell?, hb] using hu, by simp [World.frozen?, hb]⟩
theorem SepW.accMono {p : Value} {D : Nat → Prop} {N M : Nat} {A : AS} (h : SepW W w os) (i : Nat) (hi : os[i]? = some (obAcc p D N A)) (hm : N ≤ M) : SepW W w (os.set i (obAcc p D M A)) :=
  h.set i hi (Keep.refl _ _) (obAcc_good ..) ((h.get i hi : AccO p D w N A).mono hm) (fun k hk => Or.inl hk)
end
theorem Try.boolInfo : (Try.prog.info? 4).map (fun i => (i.zero, i.size, i.bytes)) = some (some (.bool false), 1, 1) := by kernel_rfl
theorem Try.strInfo : (Try.prog.info? 9).map (fun i => (i.zero, i.size, i.bytes)) = some (some (.string (strB [])), 1, 16) := by kernel_rfl
set_option maxHeartbeats 2000000 in
theorem acceptorKeeps_walk {W : World} {v0 : Value} {L : List Ac} (h0 : ActL W v0 L) (w0 : ∀ x ∈ L, AcOk x) :
    Calls Try.prog 3 #[v0] W fun e W' => e = .returned (.bool true) ∧ Below W.heap.size W W' := by
  have H0 := Lib.hid h0
  have HW := Lib.hid w0
  obtain ⟨j0, hj, hy0, hy1, hy2⟩ := info_parts Try.boolInfo
  obtain ⟨s0, hs, hs0, hs1, hs2⟩ := info_parts Try.strInfo
  obtain ⟨u0, hu, hu0, hu1, hu2⟩ := info_parts Try.u64Info
  obtain ⟨ao, ac, rfl, hac, ham, _⟩ := h0
  clear w0
  have mkB : ∀ w : World, (Instr.makeSlice 28 (.int .i64 8) (.int .i64 8)).run Try.prog w = Result.ok (.slice (some ⟨w.heap.size, 0, none⟩) 8 8) (w.alloc (.cells (madeCells #[.bool false] 8) 4)) := fun w => run_make_row (P := Try.prog) 28 4 j0 (.bool false) Try.underlying28 hj hy0 hy1 rfl .i64 .i64 8 (by rw [hy2]; decide) (by decide) w
  have mkS : ∀ w : World, (Instr.makeSlice 27 (.int .i64 8) (.int .i64 8)).run Try.prog w = Result.ok (.slice (some ⟨w.heap.size, 0, none⟩) 8 8) (w.alloc (.cells (madeCells #[.string (strB [])] 8) 9)) := fun w => run_make_row (P := Try.prog) 27 9 s0 (.string (strB [])) Try.underlying27 hs hs0 hs1 rfl .i64 .i64 8 (by rw [hs2]; decide) (by decide) w
  have mkU : ∀ w : World, (Instr.makeSlice 26 (.int .i64 8) (.int .i64 8)).run Try.prog w = Result.ok (.slice (some ⟨w.heap.size, 0, none⟩) 8 8) (w.alloc (.cells (madeCells #[.int .u64 0] 8) 29)) := fun w => run_make_row (P := Try.prog) 26 29 u0 (.int .u64 0) Try.underlying26 hu hu0 hu1 rfl .i64 .i64 8 (by rw [hu2]; decide) (by decide) w
  go_enter Try.func3, Try.ntmps3
  go_wp2_with fail
  refine (aawake_any W).mono ?_
  rintro e w1 ⟨rfl, hb1⟩
  have HB1 := Lib.hid hb1
  clear hb1
  go_wp2_with fail
  refine ((SepW.nil HB1.out).accNew).mono ?_
  rintro e w2 ⟨b0, D0, rfl, hs2⟩
  have hq1 := hs2.arrMade (.int .u64 0) 29 8
  have hq2 := hq1.arrMade (.string (strB [])) 9 8
  have hq3 := hq2.arrMade (.bool false) 4 8
  obtain ⟨BB, hBB⟩ : ∃ q, q = w2.heap.size := ⟨_, rfl⟩
  have e1 : (w2.alloc (.cells (madeCells #[.int .u64 0] 8) 29)).heap.size = w2.heap.size + 1 := by simp
  have e2 : ((w2.alloc (.cells (madeCells #[.int .u64 0] 8) 29)).alloc (.cells (madeCells #[.string (strB [])] 8) 9)).heap.size = w2.heap.size + 1 + 1 := by simp
  rw [e1, e2] at hq3
  have HS3 : Hid (SepW W (((w2.alloc (.cells (madeCells #[.int .u64 0] 8) 29)).alloc (.cells (madeCells #[.string (strB [])] 8) 9)).alloc (.cells (madeCells #[.bool false] 8) 4)) [obArr (w2.heap.size + 1 + 1) 8 4 (vI fun _ => none), obArr (w2.heap.size + 1) 8 9 (vS fun _ => none), obArr w2.heap.size 8 29 (vB fun _ => none), obAcc (.pointer (some ⟨b0, 0, none⟩)) D0 0 ⟨0, 0, fun _ => none⟩]) := Lib.hid hq3
  clear hs2 HB1 hq1 hq2 hq3 e1 e2 hBB
  go_wp2_with fail
  obtain ⟨SB, hSB⟩ : ∃ q, q = w2.heap.size + 1 := ⟨_, rfl⟩
  obtain ⟨VB, hVB⟩ : ∃ q, q = w2.heap.size + 1 + 1 := ⟨_, rfl⟩
  rw [← hVB, ← hSB] at HS3 ⊢
  generalize w2.heap.size = BB at *
  clear hVB hSB mkB mkS mkU
  go_loopw [9, 8] (fun i q wr => ∃ (k : Nat) (top : Int) (v : Int → Option Vt) (D : Nat → Prop), k ≤ L.length ∧ k ≤ 40 ∧ i = .int .i64 k ∧ q = .int .u64 top ∧ U1 top ∧ InV v ∧ SepW W wr [obArr VB 8 4 (vI v), obArr SB 8 9 (vS v), obArr BB 8 29 (vB v), obAcc (.pointer (some ⟨b0, 0, none⟩)) D k ⟨top, 0, v⟩]) (fun i _ _ => 40 - (intOf i).toNat)
  case atStart => exact ⟨0, 0, fun _ => none, D0, by omega, by omega, rfl, rfl, by constructor <;> decide, (by intro a x hx; cases hx), HS3.out⟩
  case round =>
    clear HS3
    obtain ⟨k, top, v, D, hk, hk40, rfl, rfl, ht, hv, hsep⟩ := hrel
    have HSk := Lib.hid hsep
    have HIn := Lib.hid hv
    obtain ⟨ht0, ht1⟩ := ht
    clear hsep hv
    by_cases hlt : k < L.length ∧ k < 40
    · obtain ⟨hlt, hlt40⟩ := hlt
      have hki : (k : Int) < (L.length : Int) := by omega
      have hki40 : (k : Int) < 40 := by omega
      obtain ⟨x, hx⟩ : ∃ x, L[k]? = some x := ⟨_, List.getElem?_eq_getElem hlt⟩
      have hok := HW.out x (List.mem_of_getElem? hx)
      obtain ⟨_, _, he, _, _, hxx⟩ := id H0.out
      cases he
      obtain ⟨a, rfl, sv, q0, q1, q2, q3, hsl⟩ := hxx k x hx
      obtain ⟨kd, sl, b, xs⟩ := x
      obtain ⟨⟨hkd0, hkd1⟩, hsl1, hub, hu8⟩ := hok
      simp only at q0 q1 q2 hsl hkd0 hkd1 hsl1 hub hu8
      have q0 := (HSk.out.below.cell (World.block_lt_of_cell? W _ q0)).trans q0
      have q1 := (HSk.out.below.cell (World.block_lt_of_cell? W _ q1)).trans q1
      have q2 := (HSk.out.below.cell (World.block_lt_of_cell? W _ q2)).trans q2
      have q3 := (HSk.out.below.cell (World.block_lt_of_cell? W _ q3)).trans q3
      obtain ⟨vo, vc, rfl, hvc1, hvc2⟩ := hsl.form
      simp only [List.length_map] at hsl q3 hvc1
      have HXs := Lib.hid hsl
      have HU8 := Lib.hid hu8
      have hand := and7 hsl1
      obtain ⟨j, hj⟩ : ∃ j : Nat, (j : Int) = sl % 8 := ⟨(sl % 8).toNat, by omega⟩
      rw [← hj] at hand
      have hj8 : j < 8 := by omega
      have hj0 : (0 : Int) ≤ (j : Int) := by omega
      have hji : (j : Int) < 8 := by omega
      obtain ⟨hb0, hb1⟩ := id hub
      have HUb := Lib.hid hub
      obtain ⟨q, hqd⟩ : ∃ q, bits BinOp.and IntKind.i64 kd 1 = q := ⟨_, rfl⟩
      have HSx0 := Lib.hid (HSk.out.new (below_lit wr (.cells #[.int .i64 kd, .int .u64 sl, .int .u64 b, .slice vo xs.length vc] 32)) (obBlk_good wr.heap.size (.cells #[.int .i64 kd, .int .u64 sl, .int .u64 b, .slice vo xs.length vc] 32)) (heap_alloc_new wr _) (fun q hq => by rw [show q = wr.heap.size from hq]; exact Nat.le_refl _))
      have HSx : Hid (SepW W (wr.alloc (.cells #[.int .i64 kd, .int .u64 sl, .int .u64 b, .slice vo xs.length vc] 32)) [obBlk wr.heap.size (.cells #[.int .i64 kd, .int .u64 sl, .int .u64 b, .slice vo xs.length vc] 32), obArr VB 8 4 (vI v), obArr SB 8 9 (vS v), obArr BB 8 29 (vB v), obAcc (.pointer (some ⟨b0, 0, none⟩)) D (k + 1) ⟨top, 0, v⟩]) := Lib.hid (HSx0.out.accMono 4 rfl (Nat.le_succ k))
      clear hj hx hxx hub hu8 hsl
      by_cases h60 : xs.length ≤ 60
      rotate_left
      · have h61 : (60 : Int) < (xs.length : Int) := by omega
        go_wp2_with fail
        go_ret
        exact ⟨rfl, HSx0.out.below⟩
      · have h61 : decide ((60 : Int) < (xs.length : Int)) = false := decide_eq_false (by omega)
        by_cases hq0 : q = 0
        · have hq : (q == 0) = true := by rw [beq_iff_eq]; exact hq0
          rcases Int.lt_or_le b top with hlt' | hge'
          · have hc1 : decide (top ≤ b) = false := decide_eq_false (by omega)
            have hc2 : decide (top < b) = false := decide_eq_false (by omega)
            go_wp2_with fail
            refine (HSx.out.prepOld 4 rfl (x := b) (fr := 0) hlt').mono ?_
            rintro e wy ⟨rfl, rfl⟩
            have HS8 := HSx
            go_wp2_with fail
            have HT : Hid (SepW W _ [obArr VB 8 4 (vI v), obArr SB 8 9 (vS v), obArr BB 8 29 (vB v), obAcc (.pointer (some ⟨b0, 0, none⟩)) D (k + 1) ⟨top, 0, v⟩]) := Lib.hid (HS8.out.sub (List.sublist_cons_self _ _))
            have hnn : (top != top) = false := by simp
            refine (HS8.out.accPromised 4 rfl).mono ?_
            rintro e wz ⟨rfl, rfl⟩
            go_wp2_with fail
            go_roundw
            case rel => exact ⟨k + 1, top, v, D, by omega, by omega, by go_num, rfl, ⟨ht0, ht1⟩, HIn.out, HT.out⟩
            case measure => simp [intOf]; omega
          · have hc1 : decide (top ≤ b) = true := decide_eq_true (by omega)
            go_wp2_with fail
            refine (HSx.out.prepOk 4 rfl (x := b) (fr := 0) (by show top ≤ b; omega) HUb.out (by omega)).mono ?_
            rintro e wy ⟨ks, ro, rc, vs, hks, rfl, hs6⟩
            have HS8 : Hid (SepW W wy [obBlk wr.heap.size (.cells #[.int .i64 kd, .int .u64 sl, .int .u64 b, .slice vo xs.length vc] 32), obArr VB 8 4 (vI v), obArr SB 8 9 (vS v), obArr BB 8 29 (vB v), obAcc (.pointer (some ⟨b0, 0, none⟩)) D (k + 1) ⟨b, 0, v⟩]) := Lib.hid (hs6.sub (List.sublist_cons_self _ _))
            clear hs6 hks
            obtain ⟨x0, _⟩ := HS8.out.blk 0 rfl 0 _ rfl
            obtain ⟨x1, _⟩ := HS8.out.blk 0 rfl 1 _ rfl
            obtain ⟨x2, _⟩ := HS8.out.blk 0 rfl 2 _ rfl
            obtain ⟨x3, _⟩ := HS8.out.blk 0 rfl 3 _ rfl
            by_cases hgt : top < b
            · have hc2 : decide (top < b) = true := decide_eq_true hgt
              go_wp2_with fail
              have HT : Hid (SepW W _ [obArr VB 8 4 (vI v), obArr SB 8 9 (vS v), obArr BB 8 29 (vB v), obAcc (.pointer (some ⟨b0, 0, none⟩)) D (k + 1) ⟨b, 0, v⟩]) := Lib.hid (HS8.out.sub (List.sublist_cons_self _ _))
              have hnn : (b != b) = false := by simp
              refine (HS8.out.accPromised 4 rfl).mono ?_
              rintro e wz ⟨rfl, rfl⟩
              go_wp2_with fail
              go_roundw
              case rel => exact ⟨k + 1, b, v, D, by omega, by omega, by go_num, rfl, HUb.out, HIn.out, HT.out⟩
              case measure => simp [intOf]; omega
            · have hc2 : decide (top < b) = false := decide_eq_false hgt
              have He : Hid (b = top) := Lib.hid (by omega)
              go_wp2_with fail
              have HT : Hid (SepW W _ [obArr VB 8 4 (vI v), obArr SB 8 9 (vS v), obArr BB 8 29 (vB v), obAcc (.pointer (some ⟨b0, 0, none⟩)) D (k + 1) ⟨b, 0, v⟩]) := Lib.hid (HS8.out.sub (List.sublist_cons_self _ _))
              have hnn : (b != top) = false := by rw [He.out]; simp
              refine (HS8.out.accPromised 4 rfl).mono ?_
              rintro e wz ⟨rfl, rfl⟩
              go_wp2_with fail
              go_roundw
              case rel => exact ⟨k + 1, b, v, D, by omega, by omega, by go_num, by rw [He.out], HUb.out, HIn.out, HT.out⟩
              case measure => simp [intOf]; omega
        · have hq : (q == 0) = false := by rw [beq_eq_false_iff_ne]; exact hq0
          rcases Int.lt_or_le b top with hlt' | hge'
          · have hc1 : decide (top ≤ b) = false := decide_eq_false (by omega)
            have hc2 : decide (top < b) = false := decide_eq_false (by omega)
            have he : accE ⟨top, 0, v⟩ ⟨j, b, xs⟩ = 32 := by unfold accE; rw [if_pos hlt']
            have hr : accR ⟨top, 0, v⟩ ⟨j, b, xs⟩ = ⟨top, 0, v⟩ := by unfold accR; rw [he]; rfl
            go_wp2_with fail
            refine (HSx0.out.accept 4 rfl (v := ⟨j, b, xs⟩) (HXs.out.below HSx.out.below (Nat.le_refl _)) (by show U1 (j : Int); constructor <;> omega) HUb.out HU8.out (by show xs.length ≤ 1000000; omega) (by omega)).mono ?_
            rintro e wy ⟨rfl, D', hs6⟩
            rw [he]
            rw [hr] at hs6
            have HS8 : Hid (SepW W wy [obBlk wr.heap.size (.cells #[.int .i64 kd, .int .u64 sl, .int .u64 b, .slice vo xs.length vc] 32), obArr VB 8 4 (vI v), obArr SB 8 9 (vS v), obArr BB 8 29 (vB v), obAcc (.pointer (some ⟨b0, 0, none⟩)) D' (k + 1) ⟨top, 0, v⟩]) := Lib.hid hs6
            clear hs6 he hr
            obtain ⟨x0, _⟩ := HS8.out.blk 0 rfl 0 _ rfl
            obtain ⟨x1, _⟩ := HS8.out.blk 0 rfl 1 _ rfl
            obtain ⟨x2, _⟩ := HS8.out.blk 0 rfl 2 _ rfl
            obtain ⟨x3, _⟩ := HS8.out.blk 0 rfl 3 _ rfl
            go_wp2_with fail
            have HT : Hid (SepW W _ [obArr VB 8 4 (vI v), obArr SB 8 9 (vS v), obArr BB 8 29 (vB v), obAcc (.pointer (some ⟨b0, 0, none⟩)) D' (k + 1) ⟨top, 0, v⟩]) := Lib.hid (HS8.out.sub (List.sublist_cons_self _ _))
            have hnn : (top != top) = false := by simp
            refine (HS8.out.accPromised 4 rfl).mono ?_
            rintro e wz ⟨rfl, rfl⟩
            go_wp2_with fail
            go_roundw
            case rel => exact ⟨k + 1, top, v, D', by omega, by omega, by go_num, rfl, ⟨ht0, ht1⟩, HIn.out, HT.out⟩
            case measure => simp [intOf]; omega
          · have hc1 : decide (top ≤ b) = true := decide_eq_true (by omega)
            have he : accE ⟨top, 0, v⟩ ⟨j, b, xs⟩ = 0 := by unfold accE; simp only; rw [if_neg (by omega), if_neg (by omega)]
            have hr : accR ⟨top, 0, v⟩ ⟨j, b, xs⟩ = ⟨b, 0, putV v j ⟨j, b, xs⟩⟩ := by unfold accR; rw [he]; rfl
            go_wp2_with fail
            refine (HSx0.out.accept 4 rfl (v := ⟨j, b, xs⟩) (HXs.out.below HSx.out.below (Nat.le_refl _)) (by show U1 (j : Int); constructor <;> omega) HUb.out HU8.out (by show xs.length ≤ 1000000; omega) (by omega)).mono ?_
            rintro e wy ⟨rfl, D', hs6⟩
            rw [he]
            rw [hr] at hs6
            have HS7 : Hid (SepW W wy [obBlk wr.heap.size (.cells #[.int .i64 kd, .int .u64 sl, .int .u64 b, .slice vo xs.length vc] 32), obArr VB 8 4 (vI v), obArr SB 8 9 (vS v), obArr BB 8 29 (vB v), obAcc (.pointer (some ⟨b0, 0, none⟩)) D' (k + 1) ⟨b, 0, putV v j ⟨j, b, xs⟩⟩]) := Lib.hid hs6
            clear hs6 he hr
            obtain ⟨x0, _⟩ := HS7.out.blk 0 rfl 0 _ rfl
            obtain ⟨x1, _⟩ := HS7.out.blk 0 rfl 1 _ rfl
            obtain ⟨x2, _⟩ := HS7.out.blk 0 rfl 2 _ rfl
            obtain ⟨x3, _⟩ := HS7.out.blk 0 rfl 3 _ rfl
            obtain ⟨f1, f2⟩ := HS7.out.arrCell 3 rfl hj8
            have hs71 := HS7.out.arrSet 3 rfl hj8 (.int .u64 b)
            obtain ⟨f3, f4⟩ := hs71.arrCell 2 rfl hj8
            have hs72 := hs71.arrSet 2 rfl hj8 (.string (strB xs))
            obtain ⟨f5, f6⟩ := hs72.arrCell 1 rfl hj8
            have hs73 := hs72.arrSet 1 rfl hj8 (.bool true)
            obtain ⟨z3, _⟩ := hs71.blk 0 rfl 3 _ rfl
            obtain ⟨z2, _⟩ := hs73.blk 0 rfl 2 _ rfl
            have rc : (convert 30 9 (.slice vo xs.length vc)).run Try.prog (wy.setCell ⟨BB, j, none⟩ (.int .u64 b)) = .ok (.string (strB xs)) (wy.setCell ⟨BB, j, none⟩ (.int .u64 b)) := run_strB Try.underlying30 Try.underlying5 Try.underlying9 (HXs.out.below hs71.below (Nat.le_refl _))
            have HV2 : Hid (InV (putV v j ⟨j, b, xs⟩)) := Lib.hid (putV_in HIn.out hj8 rfl)
            have HS8 : Hid (SepW W (((wy.setCell ⟨BB, j, none⟩ (.int .u64 b)).setCell ⟨SB, j, none⟩ (.string (strB xs))).setCell ⟨VB, j, none⟩ (.bool true)) [obBlk wr.heap.size (.cells #[.int .i64 kd, .int .u64 sl, .int .u64 b, .slice vo xs.length vc] 32), obArr VB 8 4 (vI (putV v j ⟨j, b, xs⟩)), obArr SB 8 9 (vS (putV v j ⟨j, b, xs⟩)), obArr BB 8 29 (vB (putV v j ⟨j, b, xs⟩)), obAcc (.pointer (some ⟨b0, 0, none⟩)) D' (k + 1) ⟨b, 0, putV v j ⟨j, b, xs⟩⟩]) := Lib.hid (by
              rw [← obArr_congr (fun i hi => vB_put v j ⟨j, b, xs⟩ i), ← obArr_congr (fun i hi => vS_put v j ⟨j, b, xs⟩ i), ← obArr_congr (fun i hi => vI_put v j ⟨j, b, xs⟩ i)]
              exact hs73)
            clear hs71 hs72 hs73
            by_cases hgt : top < b
            · have hc2 : decide (top < b) = true := decide_eq_true hgt
              go_wp2_with fail
              have HT : Hid (SepW W _ [obArr VB 8 4 (vI (putV v j ⟨j, b, xs⟩)), obArr SB 8 9 (vS (putV v j ⟨j, b, xs⟩)), obArr BB 8 29 (vB (putV v j ⟨j, b, xs⟩)), obAcc (.pointer (some ⟨b0, 0, none⟩)) D' (k + 1) ⟨b, 0, (putV v j ⟨j, b, xs⟩)⟩]) := Lib.hid (HS8.out.sub (List.sublist_cons_self _ _))
              have hnn : (b != b) = false := by simp
              refine (HS8.out.accPromised 4 rfl).mono ?_
              rintro e wz ⟨rfl, rfl⟩
              go_wp2_with fail
              go_roundw
              case rel => exact ⟨k + 1, b, (putV v j ⟨j, b, xs⟩), D', by omega, by omega, by go_num, rfl, HUb.out, HV2.out, HT.out⟩
              case measure => simp [intOf]; omega
            · have hc2 : decide (top < b) = false := decide_eq_false hgt
              have He : Hid (b = top) := Lib.hid (by omega)
              go_wp2_with fail
              have HT : Hid (SepW W _ [obArr VB 8 4 (vI (putV v j ⟨j, b, xs⟩)), obArr SB 8 9 (vS (putV v j ⟨j, b, xs⟩)), obArr BB 8 29 (vB (putV v j ⟨j, b, xs⟩)), obAcc (.pointer (some ⟨b0, 0, none⟩)) D' (k + 1) ⟨b, 0, (putV v j ⟨j, b, xs⟩)⟩]) := Lib.hid (HS8.out.sub (List.sublist_cons_self _ _))
              have hnn : (b != top) = false := by rw [He.out]; simp
              refine (HS8.out.accPromised 4 rfl).mono ?_
              rintro e wz ⟨rfl, rfl⟩
              go_wp2_with fail
              go_roundw
              case rel => exact ⟨k + 1, b, (putV v j ⟨j, b, xs⟩), D', by omega, by omega, by go_num, by rw [He.out], HUb.out, HV2.out, HT.out⟩
              case measure => simp [intOf]; omega
    · rcases (show ¬ k < L.length ∨ (k < L.length ∧ k = 40) by omega) with hex | ⟨hex1, hex⟩
      · have hkk : decide ((k : Int) < (L.length : Int)) = false := decide_eq_false (by omega)
        have hkk2 : decide (k < L.length) = false := decide_eq_false (by omega)
        have HTV : Hid (∀ ks, IsKeys v ks → votL v ks 0 = ((List.range 8).filter (pV v)).map (gV v)) := Lib.hid (fun ks h => told_V h HIn.out)
        have HRa := Lib.hid (fun (k : Nat) (h1 : k < 8) (h2 : pV v k = true) => told_at h1 h2)
        have HRt := Lib.hid (fun (k : Nat) (h1 : k < 8) (h2 : pV v k = true) => told_lt h1 h2)
        have HRl := Lib.hid (told_len v)
        generalize ((List.range 8).filter (pV v)).map (gV v) = R at *
        clear H0 HW hlt hex
        go_wp2_with fail
        refine (HSk.out.prepOk 3 rfl (x := top) (fr := 0) (by show top ≤ top; omega) ⟨ht0, ht1⟩ (by omega)).mono ?_
        rintro e w6 ⟨ks, ro, rc, vs, hks, rfl, hs6⟩
        have hR : votL (⟨top, 0, v⟩ : AS).l ks 0 = R := HTV.out ks hks
        rw [hR] at hs6 ⊢
        have HS6 : Hid (SepW W w6 [obVts (.slice ro R.length rc) 39 vs R, obArr VB 8 4 (vI v), obArr SB 8 9 (vS v), obArr BB 8 29 (vB v), obAcc (.pointer (some ⟨b0, 0, none⟩)) D k ⟨top, 0, v⟩]) := Lib.hid hs6
        clear hs6 hks hR HSk HTV
        go_wp2_with fail
        go_loopw [18, 17] (fun i q wr => ∃ (m : Nat), m ≤ 8 ∧ i = .int .i64 m ∧ q = .int .i64 (nV v m : Nat) ∧ SepW W wr [obVts (.slice ro R.length rc) 39 vs R, obArr VB 8 4 (vI v), obArr SB 8 9 (vS v), obArr BB 8 29 (vB v), obAcc (.pointer (some ⟨b0, 0, none⟩)) D k ⟨top, 0, v⟩]) (fun i _ _ => 8 - (intOf i).toNat)
        case atStart => exact ⟨0, by omega, rfl, rfl, HS6.out⟩
        case round =>
          clear HS6
          obtain ⟨m, hm, rfl, rfl, hsep⟩ := hrel
          have HSm := Lib.hid hsep
          clear hsep
          by_cases hm8 : m < 8
          · have hmi : (m : Int) < 8 := by omega
            have hm0 : (0 : Int) ≤ (m : Int) := by omega
            have hwm : IntKind.u64.wrap (m : Int) = (m : Int) := IntWalk.u64_in _ (by omega)
            have hat0 : (0 : Int) ≤ (nV v m : Nat) := by omega
            have hnkl := nV_le v m
            have hsu : nV v (m + 1) = nV v m + (if pV v m then 1 else 0) := filter_succ (pV v) m
            have hwq : IntKind.i64.wrap (((nV v m : Nat) : Int) + 1) = ((nV v m : Nat) : Int) + 1 := IntWalk.i64_in _ (by omega)
            obtain ⟨f1, _⟩ := HSm.out.arrCell 1 rfl hm8
            obtain ⟨f2, _⟩ := HSm.out.arrCell 2 rfl hm8
            obtain ⟨f3, _⟩ := HSm.out.arrCell 3 rfl hm8
            cases hvm : v (m : Int) with
            | none =>
              have f1' : wr.cell? ⟨VB, m, none⟩ = some (.bool false) := by rw [f1]; unfold vI; rw [hvm]; rfl
              have hpf : pV v m = false := by unfold pV; rw [hvm]; rfl
              rw [hpf] at hsu
              simp only [Bool.false_eq_true, if_false, Nat.add_zero] at hsu
              have HSv := Lib.hid hsu
              clear hsu hpf hvm f1 f2 f3
              go_wp2_with fail
              go_roundw
              case rel => exact ⟨m + 1, by omega, by go_num, by rw [HSv.out], HSm.out⟩
              case measure => simp [intOf]; omega
            | some x =>
              have hxs : x.slot = (m : Int) := (HIn.out _ x hvm).2
              have hpf : pV v m = true := by unfold pV; rw [hvm]; rfl
              have hRk := HRa.out m hm8 hpf
              have hge : gV v m = x := by unfold gV; rw [hvm]; rfl
              rw [hge] at hRk
              have f1' : wr.cell? ⟨VB, m, none⟩ = some (.bool true) := by rw [f1]; unfold vI; rw [hvm]; rfl
              have f2' : wr.cell? ⟨SB, m, none⟩ = some (.string (strB x.val)) := by rw [f2]; unfold vS; rw [hvm]; rfl
              have f3' : wr.cell? ⟨BB, m, none⟩ = some (.int .u64 x.ballot) := by rw [f3]; unfold vB; rw [hvm]; rfl
              have hRt2 := HRt.out m hm8 hpf
              have hRl := HRl.out
              rw [← hRl] at hRt2
              rw [hpf] at hsu
              simp only [if_true] at hsu
              have HSv := Lib.hid hsu
              have hvv := (HSm.out.get 0 rfl : (obVts (.slice ro R.length rc) 39 vs R).inv wr)
              obtain ⟨ao', c', he, hc1, hc2, hvx⟩ := VtL.of_own hvv.1 hvv.2.1
              cases he
              obtain ⟨ra, sv, rfl, p0, p1, p2, hsv⟩ := hvx _ _ hRk
              rw [hxs] at p0
              obtain ⟨so, sc, rfl, hsc1, hsc2⟩ := hsv.form
              have rq : ∀ q : Nat, (convert 30 9 (.slice so x.val.length sc)).run Try.prog (wr.drewN q) = .ok (.string (strB x.val)) (wr.drewN q) := fun q => by
                have := run_strB (P := Try.prog) (src := 30) (dst := 9) Try.underlying30 Try.underlying5 Try.underlying9 (hsv.below (below_drewN (Below.refl wr.heap.size wr) q) (Nat.le_refl _))
                simpa using this
              simp only [List.length_map] at p2 hsc1
              generalize nV v m = t at *
              have hti : (t : Int) < (R.length : Int) := by omega
              have htd : decide ((R.length : Int) ≤ (t : Int)) = false := decide_eq_false (by omega)
              have htd2 : decide (R.length ≤ t) = false := decide_eq_false (by omega)
              have htn : t < R.length := by omega
              obtain ⟨xsl, xb, xv⟩ := x
              simp only at p1 p2 f2' f3' rq hsc1
              clear hsu hpf hvm hRk hRl hvx hvv hsv hge f1 f2 f3 hRt2 hnkl hxs
              go_wp2_with fail
              go_quiet (fail)
              go_wp2_with fail
              go_roundw
              case rel => exact ⟨m + 1, by omega, by go_num, by rw [HSv.out]; rfl, by first | exact HSm.out | exact HSm.out.step (below_drewN (Below.refl _ _) _)⟩
              case measure => simp [intOf]; omega
          · have hm16 : m = 8 := by omega
            subst hm16
            have hmm : decide (((8 : Nat) : Int) < 8) = false := by decide
            have hRl := HRl.out
            rw [hRl]
            clear hm hm8
            go_wp2_with fail
            go_ret
            exact ⟨by first | rfl | simp, HSm.out.below⟩
      · have hkk : decide ((k : Int) < 40) = false := decide_eq_false (by omega)
        have hkk2 : decide (k < 40) = false := decide_eq_false (by omega)
        have hkk3 : (k : Int) < (L.length : Int) := by omega
        have hkk4 : decide ((k : Int) < (L.length : Int)) = true := decide_eq_true hkk3
        have HTV : Hid (∀ ks, IsKeys v ks → votL v ks 0 = ((List.range 8).filter (pV v)).map (gV v)) := Lib.hid (fun ks h => told_V h HIn.out)
        have HRa := Lib.hid (fun (k : Nat) (h1 : k < 8) (h2 : pV v k = true) => told_at h1 h2)
        have HRt := Lib.hid (fun (k : Nat) (h1 : k < 8) (h2 : pV v k = true) => told_lt h1 h2)
        have HRl := Lib.hid (told_len v)
        generalize ((List.range 8).filter (pV v)).map (gV v) = R at *
        clear H0 HW hlt hex
        go_wp2_with fail
        refine (HSk.out.prepOk 3 rfl (x := top) (fr := 0) (by show top ≤ top; omega) ⟨ht0, ht1⟩ (by omega)).mono ?_
        rintro e w6 ⟨ks, ro, rc, vs, hks, rfl, hs6⟩
        have hR : votL (⟨top, 0, v⟩ : AS).l ks 0 = R := HTV.out ks hks
        rw [hR] at hs6 ⊢
        have HS6 : Hid (SepW W w6 [obVts (.slice ro R.length rc) 39 vs R, obArr VB 8 4 (vI v), obArr SB 8 9 (vS v), obArr BB 8 29 (vB v), obAcc (.pointer (some ⟨b0, 0, none⟩)) D k ⟨top, 0, v⟩]) := Lib.hid hs6
        clear hs6 hks hR HSk HTV
        go_wp2_with fail
        go_loopw [18, 17] (fun i q wr => ∃ (m : Nat), m ≤ 8 ∧ i = .int .i64 m ∧ q = .int .i64 (nV v m : Nat) ∧ SepW W wr [obVts (.slice ro R.length rc) 39 vs R, obArr VB 8 4 (vI v), obArr SB 8 9 (vS v), obArr BB 8 29 (vB v), obAcc (.pointer (some ⟨b0, 0, none⟩)) D k ⟨top, 0, v⟩]) (fun i _ _ => 8 - (intOf i).toNat)
        case atStart => exact ⟨0, by omega, rfl, rfl, HS6.out⟩
        case round =>
          clear HS6
          obtain ⟨m, hm, rfl, rfl, hsep⟩ := hrel
          have HSm := Lib.hid hsep
          clear hsep
          by_cases hm8 : m < 8
          · have hmi : (m : Int) < 8 := by omega
            have hm0 : (0 : Int) ≤ (m : Int) := by omega
            have hwm : IntKind.u64.wrap (m : Int) = (m : Int) := IntWalk.u64_in _ (by omega)
            have hat0 : (0 : Int) ≤ (nV v m : Nat) := by omega
            have hnkl := nV_le v m
            have hsu : nV v (m + 1) = nV v m + (if pV v m then 1 else 0) := filter_succ (pV v) m
            have hwq : IntKind.i64.wrap (((nV v m : Nat) : Int) + 1) = ((nV v m : Nat) : Int) + 1 := IntWalk.i64_in _ (by omega)
            obtain ⟨f1, _⟩ := HSm.out.arrCell 1 rfl hm8
            obtain ⟨f2, _⟩ := HSm.out.arrCell 2 rfl hm8
            obtain ⟨f3, _⟩ := HSm.out.arrCell 3 rfl hm8
            cases hvm : v (m : Int) with
            | none =>
              have f1' : wr.cell? ⟨VB, m, none⟩ = some (.bool false) := by rw [f1]; unfold vI; rw [hvm]; rfl
              have hpf : pV v m = false := by unfold pV; rw [hvm]; rfl
              rw [hpf] at hsu
              simp only [Bool.false_eq_true, if_false, Nat.add_zero] at hsu
              have HSv := Lib.hid hsu
              clear hsu hpf hvm f1 f2 f3
              go_wp2_with fail
              go_roundw
              case rel => exact ⟨m + 1, by omega, by go_num, by rw [HSv.out], HSm.out⟩
              case measure => simp [intOf]; omega
            | some x =>
              have hxs : x.slot = (m : Int) := (HIn.out _ x hvm).2
              have hpf : pV v m = true := by unfold pV; rw [hvm]; rfl
              have hRk := HRa.out m hm8 hpf
              have hge : gV v m = x := by unfold gV; rw [hvm]; rfl
              rw [hge] at hRk
              have f1' : wr.cell? ⟨VB, m, none⟩ = some (.bool true) := by rw [f1]; unfold vI; rw [hvm]; rfl
              have f2' : wr.cell? ⟨SB, m, none⟩ = some (.string (strB x.val)) := by rw [f2]; unfold vS; rw [hvm]; rfl
              have f3' : wr.cell? ⟨BB, m, none⟩ = some (.int .u64 x.ballot) := by rw [f3]; unfold vB; rw [hvm]; rfl
              have hRt2 := HRt.out m hm8 hpf
              have hRl := HRl.out
              rw [← hRl] at hRt2
              rw [hpf] at hsu
              simp only [if_true] at hsu
              have HSv := Lib.hid hsu
              have hvv := (HSm.out.get 0 rfl : (obVts (.slice ro R.length rc) 39 vs R).inv wr)
              obtain ⟨ao', c', he, hc1, hc2, hvx⟩ := VtL.of_own hvv.1 hvv.2.1
              cases he
              obtain ⟨ra, sv, rfl, p0, p1, p2, hsv⟩ := hvx _ _ hRk
              rw [hxs] at p0
              obtain ⟨so, sc, rfl, hsc1, hsc2⟩ := hsv.form
              have rq : ∀ q : Nat, (convert 30 9 (.slice so x.val.length sc)).run Try.prog (wr.drewN q) = .ok (.string (strB x.val)) (wr.drewN q) := fun q => by
                have := run_strB (P := Try.prog) (src := 30) (dst := 9) Try.underlying30 Try.underlying5 Try.underlying9 (hsv.below (below_drewN (Below.refl wr.heap.size wr) q) (Nat.le_refl _))
                simpa using this
              simp only [List.length_map] at p2 hsc1
              generalize nV v m = t at *
              have hti : (t : Int) < (R.length : Int) := by omega
              have htd : decide ((R.length : Int) ≤ (t : Int)) = false := decide_eq_false (by omega)
              have htd2 : decide (R.length ≤ t) = false := decide_eq_false (by omega)
              have htn : t < R.length := by omega
              obtain ⟨xsl, xb, xv⟩ := x
              simp only at p1 p2 f2' f3' rq hsc1
              clear hsu hpf hvm hRk hRl hvx hvv hsv hge f1 f2 f3 hRt2 hnkl hxs
              go_wp2_with fail
              go_quiet (fail)
              go_wp2_with fail
              go_roundw
              case rel => exact ⟨m + 1, by omega, by go_num, by rw [HSv.out]; rfl, by first | exact HSm.out | exact HSm.out.step (below_drewN (Below.refl _ _) _)⟩
              case measure => simp [intOf]; omega
          · have hm16 : m = 8 := by omega
            subst hm16
            have hmm : decide (((8 : Nat) : Int) < 8) = false := by decide
            have hRl := HRl.out
            rw [hRl]
            clear hm hm8
            go_wp2_with fail
            go_ret
            exact ⟨by first | rfl | simp, HSm.out.below⟩
theorem acceptorKeeps_holds : Rows.AcceptorKeepsSaid :=
  OpenClaim.holds_of_wide 3 Try.f3 rfl rfl rfl rfl rfl rfl rfl ⟨rfl, rfl, rfl, rfl, rfl⟩ rfl rfl rfl rfl rfl (by kernel_rfl) Try.func3 (by kernel_rfl)
    (of_decide_eq_true (by kernel_rfl)) (by unfold Func.isWrapper; rw [if_neg (by decide +kernel)]; exact ⟨rfl, rfl⟩)
    (fun os started H enc _ => law_frame (C := Try.checked) (fn := Try.f3) (s := Rows.acceptorKeepsSpec) (tb := 4) Try.own started (by kernel_rfl) Try.func3 Try.laidOut rfl (by kernel_rfl) Try.underlying4 (by kernel_rfl)
      (fun ds hd => by match ds, hd with | [_], _ => exact ⟨rfl, rfl, rfl⟩)
      (ChangeSpec.witness6 (enc := enc) (C := Try.checked) false ⟨#[], #[.slice none 0 0], []⟩ 8 (by kernel_rfl) (by kernel_rfl) (by kernel_rfl) (by kernel_rfl))
      (fun W base args ds p hval0 hA0 _ => by
        have hval : ∀ (j : Nat) t v, Try.f3.params[j]? = some t → args[j]? = some v → Value.okWide Try.prog W .any base t v := hval0
        have hA : DataW.TrodAll enc Try.prog W 0 (fun _ => true) true Try.f3.params.toList args.toList ds p := hA0
        rw [Try.params3] at hA hval
        obtain ⟨v0, d0, rfl, rfl, h0⟩ := trodAll_one hA
        obtain ⟨x0, hx0, wx0⟩ := Try.act_open (hval 0 22 v0 rfl rfl) h0
        exact acceptorKeeps_walk hx0 wx0))

end Go.Proofs.Ytjdjfhioobhcjaa
