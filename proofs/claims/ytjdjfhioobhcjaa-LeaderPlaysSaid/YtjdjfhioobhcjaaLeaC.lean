/-
  Package leader: Accepted, where the slot is open.
-/
import Derived.Test.YtjdjfhioobhcjaaLeaB
namespace Go.Proofs.Ytjdjfhioobhcjaa
open Go.ChangeShapes Go.WideShapes Go.ChangeAt Go.RowKit Go.Maps
set_option maxRecDepth 100000

theorem or_msk {f : Nat → Bool} {n : Nat} (hn : n < 32) : bits BinOp.or IntKind.u32 ((msk 32 f : Nat) : Int) ((2 ^ n : Nat) : Int) = ((msk 32 (addK f n) : Nat) : Int) := by
  have h1 := (bits_nat .u32 32 (by decide) (fun n h0 h1 => IntWalk.u32_in n (by constructor <;> omega)) (msk 32 f) (2 ^ n) (msk_lt 32 f) (Nat.pow_lt_pow_right (by decide) hn)).2
  rw [h1, msk_or f hn]
/-- What a vote that is noted comes to. -/
def RetAc (D : Nat → Prop) (b0 N : Nat) (ko lo : Option Nat) (A : LS) (v : Vt) (g : Nat → Bool) (w : World) (e : Ending) (w' : World) : Prop :=
  (A.many / 2 < cnt 32 g → ∃ ao c D' base, e = .returned (.tuple #[.agg #[.int .u64 v.slot, .int .u64 v.ballot, .slice ao v.val.length c], .bool true]) ∧ w'.ownsRow base 5 1 (.slice ao v.val.length c) v.val.length (u8s v.val) ∧ w.heap.size ≤ base ∧ (∀ k, D' k → k < base) ∧
    LeaR w' D' b0 ko lo (N + 1) (opD A v.slot) ∧ Moved D D' w w') ∧
  (¬ A.many / 2 < cnt 32 g → e = .returned (.tuple #[.agg #[.int .u64 0, .int .u64 0, .slice none 0 0], .bool false]) ∧ ∃ D', LeaR w' D' b0 ko lo (N + 1) (opP A v g) ∧ Moved D D' w w')
theorem opD_opP (A : LS) (v : Vt) (g : Nat → Bool) : opD (opP A v g) v.slot = opD A v.slot := by
  unfold opD opP
  simp only [LS.mk.injEq, true_and]
  funext a
  by_cases e : a = v.slot
  · rw [if_pos e, if_pos e]
  · rw [if_neg e, if_neg e, if_neg e]
theorem or_msk2 {f : Nat → Bool} {n : Nat} (hn : n < 32) : bits BinOp.or IntKind.u32 ((msk 32 f : Nat) : Int) ((2 : Int) ^ n % 4294967296) = ((msk 32 (addK f n) : Nat) : Int) := by
  have h1 : (2 : Int) ^ n = ((2 ^ n : Nat) : Int) := by simp
  have h2 : 2 ^ n < 4294967296 := Nat.pow_lt_pow_right (m := n) (n := 32) (by decide) hn
  have h3 := or_msk (f := f) hn
  rw [h1]
  generalize 2 ^ n = m at *
  rw [Int.emod_eq_of_lt (by omega) (by omega), h3]
set_option maxHeartbeats 4000000 in
theorem lacc_ok {D : Nat → Prop} {w : World} {b0 bl N : Nat} {ko : Option Nat} {A : LS} (h : LeaR w D b0 ko (some bl) N A) {n : Nat} {b s : Int} (hyes : A.stage = 2 ∧ b = A.ballot ∧ 0 ≤ (n : Int) ∧ (n : Int) < A.many) (us : U1 s) {v : Vt} {g : Nat → Bool} (hs : A.op s = some (v, g)) (hN : N < 1000000) :
    Calls Try.prog 39 #[.pointer (some ⟨b0, 0, none⟩), .int .i64 n, .int .u64 b, .int .u64 s] w (RetAc D b0 N ko (some bl) A v (addK g n) w) := by
  have hsm := h.op.small s (v, g) hs
  obtain ⟨vs, vb, vx⟩ := v
  obtain ⟨_, hvs, hvb, hv8, hvl⟩ := hsm
  simp only at hvs hvb hv8 hvl
  subst hvs
  have hb1 := (Below.refl w.heap.size w).alloc (Nat.le_refl _) (.cells #[.int .u64 0, .int .u64 0, .slice none 0 0] 39)
  have hR1 := h.below hb1 (Nat.le_refl _)
  have HI := Lib.hid (lis_any hR1 2 n b)
  have hd : decide (A.stage = 2 ∧ b = A.ballot ∧ 0 ≤ (n : Int) ∧ (n : Int) < A.many) = true := decide_eq_true hyes
  rw [hd] at HI
  have hm := h.many
  have hn32 : n < 32 := by omega
  obtain ⟨⟨c0, c1, c2, c3, c4, c5, c6, c7⟩, _⟩ := hR1.cell
  obtain ⟨lo, lc, hlk0, _, hsl2, _, _, _, hvo, hlc1, hlc2⟩ := h.lookO (slot := vs) us
  obtain ⟨f, hf, hv, hx⟩ := h.op.some_ bl rfl
  have hlk := hlk0 (w.alloc (.cells #[.int .u64 0, .int .u64 0, .slice none 0 0] 39)) (hb1.block bl hf.lt)
  rw [oOr_some hs] at hlk hsl2 hvo hlc1
  simp only [hs, Option.isSome_some] at hlk hsl2 hvo hlc1
  have hb2 := hb1.alloc (by simp) (.cells #[.int .u64 vs, .int .u64 vb, .slice lo vx.length lc, .int .u32 (msk 32 g)] 127)
  have hor := or_msk2 (f := g) hn32
  have H := Lib.hid h
  have HB1 := Lib.hid hb1
  have HB2 := Lib.hid hb2
  have HV := Lib.hid hv
  have HX := Lib.hid hx
  have HF := Lib.hid hf
  have HS := Lib.hid hsl2
  have HVo := Lib.hid hvo
  clear hyes hd hb1 hR1 hlk0 hb2 h hv hx hf hsl2 hvo hs
  go_enter Try.func39, Try.ntmps39
  go_wp2_with fail
  refine HI.out.mono ?_
  rintro e w1 ⟨rfl, rfl⟩
  go_wp2_with fail
  go_region
  clear hlk c0 c1 c2 c3 c4 c5 c6 c7 hor
  obtain ⟨W3, HW3⟩ : ∃ x, x = ((w.alloc (.cells #[.int .u64 0, .int .u64 0, .slice none 0 0] 39)).alloc (.cells #[.int .u64 vs, .int .u64 vb, .slice lo vx.length lc, .int .u32 (msk 32 (addK g n))] 127)).drew := ⟨_, rfl⟩
  rw [← HW3]
  have hb3 : Below w.heap.size w W3 := by rw [HW3]; exact (HB1.out.alloc (by simp) _).drew
  have hz3 : W3.heap.size = w.heap.size + 2 := by rw [HW3]; simp
  have hv3 : W3.heap[w.heap.size]? = some (.cells #[.int .u64 0, .int .u64 0, .slice none 0 0] 39 (0, 0)) := by
    rw [HW3]; exact (Below.heap_alloc _ _ _ (by simp)).trans (heap_alloc_new w _)
  have ho3 : W3.heap[w.heap.size + 1]? = some (.cells #[.int .u64 vs, .int .u64 vb, .slice lo vx.length lc, .int .u32 (msk 32 (addK g n))] 127 (0, 0)) := by
    rw [HW3]
    have := heap_alloc_new (w.alloc (.cells #[.int .u64 0, .int .u64 0, .slice none 0 0] 39)) (.cells #[.int .u64 vs, .int .u64 vb, .slice lo vx.length lc, .int .u32 (msk 32 (addK g n))] 127)
    rw [show (w.alloc (.cells #[.int .u64 0, .int .u64 0, .slice none 0 0] 39)).heap.size = w.heap.size + 1 by simp] at this
    exact this
  clear HW3
  have HW : Hid (∀ wm : World, Below W3.heap.size W3 wm → wm.cell? ⟨b0, 7, none⟩ = some (.map (some bl)) ∧ wm.cell? ⟨w.heap.size + 1, 0, none⟩ = some (.int .u64 vs) ∧ wm.cell? ⟨w.heap.size + 1, 1, none⟩ = some (.int .u64 vb) ∧ wm.cell? ⟨w.heap.size + 1, 2, none⟩ = some (.slice lo vx.length lc) ∧ wm.cell? ⟨w.heap.size + 1, 3, none⟩ = some (.int .u32 (msk 32 (addK g n)))) := Lib.hid (by
    intro wm hbm
    obtain ⟨⟨_, _, _, _, _, _, _, e7⟩, _⟩ := (H.out.below (hb3.trans (hbm.mono hb3.size)) (Nat.le_refl _)).cell
    have hxm := (hbm.block (w.heap.size + 1) (by omega)).trans ho3
    exact ⟨e7, World.news_of_block hxm 0 _ rfl, World.news_of_block hxm 1 _ rfl, World.news_of_block hxm 2 _ rfl, World.news_of_block hxm 3 _ rfl⟩)
  obtain ⟨w2, hrun, hm2, hg2⟩ := (HF.out.same (show W3.drew.heap[bl]? = w.heap[bl]? from hb3.block bl HF.out.lt)).store uKeyed Try.underlying114 (by unfold maxLen; omega) (u_key us) (val := .agg #[.int .u64 vs, .int .u64 vb, .slice lo vx.length lc, .int .u32 (msk 32 (addK g n))]) (by trivial)
  obtain ⟨r7, r0, r1, r2, r3⟩ := HW.out W3.drew (Below.refl _ _).drew
  have hne0 := H.out.ne.2.1 bl rfl
  have hlt2 := LR_lt H.out bl (Or.inr (Or.inr rfl))
  have q7 := hg2.cell r7 (by simp; omega)
  have q0 := hg2.cell r0 (by simp; omega)
  have q1 := hg2.cell r1 (by simp; omega)
  have q2 := hg2.cell r2 (by simp; omega)
  have q3 := hg2.cell r3 (by simp; omega)
  have HM2 := Lib.hid hm2
  have HG2 := Lib.hid hg2
  have HB3 := Lib.hid hb3
  have HV3 := Lib.hid hv3
  have HO3 := Lib.hid ho3
  clear hm2 hg2 hb3 hv3 ho3
  go_wp2_with fail
  go_region_held3 (fun w' => w'.cell? ⟨b0, 7, none⟩ = some (.map (some bl)) ∧ w'.cell? ⟨w.heap.size + 1, 0, none⟩ = some (.int .u64 vs) ∧ w'.cell? ⟨w.heap.size + 1, 1, none⟩ = some (.int .u64 vb) ∧ w'.cell? ⟨w.heap.size + 1, 2, none⟩ = some (.slice lo vx.length lc) ∧ w'.cell? ⟨w.heap.size + 1, 3, none⟩ = some (.int .u32 (msk 32 (addK g n)))) (first | go_keep)
      (first | fail)
  clear r0 r1 r2 r3 r7 hrun
  have hsl3 : SlR W3.drew (.slice lo vx.length lc) (u8s vx) := (HS.out.below HB3.out (Nat.le_refl _)).below (Below.refl _ _).drew (Nat.le_refl _)
  have hz1 : (w.alloc (.cells #[.int .u64 0, .int .u64 0, .slice none 0 0] 39)).heap.size = w.heap.size + 1 := by simp
  have hb13 : Below (w.alloc (.cells #[.int .u64 0, .int .u64 0, .slice none 0 0] 39)).heap.size (w.alloc (.cells #[.int .u64 0, .int .u64 0, .slice none 0 0] 39)) W3 := by
    refine ⟨HB3.out.os, HB3.out.tape, HB3.out.output, by omega, fun k hk => ?_⟩
    by_cases e : k = w.heap.size
    · subst e; exact HV3.out.trans (heap_alloc_new w _).symm
    · have hk2 : k < w.heap.size := by omega
      exact (HB3.out.block k hk2).trans (Below.heap_alloc _ _ _ hk2).symm
  obtain ⟨hA, hkA⟩ := (H.out.below HB1.out (Nat.le_refl _)).putO (wm := W3.drew) (v := ⟨vs, vb, vx⟩) (g := addK g n) hb13.drew hsl3 (fun k hk => Or.inl (HVo.out k hk)) HM2.out HG2.out (fun a ha => (HV.out a ha).keep (Below.keep0 (fun _ => False) HB1.out) (fun _ hk _ => hk.elim) (fun _ h => h) (fun _ _ h => h)) HX.out us hvb hv8 hvl
  have hkA := (Below.keep0 (fun k => k = bl) HB1.out).trans hkA
  have HA := Lib.hid hA
  have HKA := Lib.hid hkA
  have hMj := lmajority_any hA (addK g n)
  have HMj := Lib.hid hMj
  have hk2 : Keep (fun k => k = bl) W3.drew w2 := Keep.grown HG2.out (fun k hk => by cases hk; rfl)
  have hv2 := (hk2.block w.heap.size (by simp; omega) (by omega)).trans (show W3.drew.heap[w.heap.size]? = _ from HV3.out)
  have HV2 := Lib.hid hv2
  have HO2 := Lib.hid ((hk2.block (w.heap.size + 1) (by simp; omega) (by omega)).trans (show W3.drew.heap[w.heap.size + 1]? = _ from HO3.out))
  have hz2 := hk2.size
  have hz2 : w.heap.size + 2 ≤ w2.heap.size := by simp at hz2; omega
  have HKL := Lib.hid hkA
  clear hA hkA hMj hk2 hv2 hsl3
  go_wp2_with fail
  refine HMj.out.mono ?_
  rintro e w4 ⟨rfl, hD4⟩
  obtain ⟨nd, rfl⟩ := hD4
  have hDl : ∀ k, D k → k < w.heap.size := H.out.lt
  have hbl := H.out.dr bl (Or.inr (Or.inr rfl))
  have HKW : Hid (Keep D w (w2.drewN nd)) := Lib.hid ((HKA.out.mono (fun k _ e => by subst e; exact hbl)).drewN nd)
  have hv4 : (w2.drewN nd).heap[w.heap.size]? = some (.cells #[.int .u64 0, .int .u64 0, .slice none 0 0] 39 (0, 0)) := HV2.out
  have ho4 : (w2.drewN nd).heap[w.heap.size + 1]? = some (.cells #[.int .u64 vs, .int .u64 vb, .slice lo vx.length lc, .int .u32 (msk 32 (addK g n))] 127 (0, 0)) := HO2.out
  have HA4 := Lib.hid (HA.out.below (Below.refl w2.heap.size w2 |> fun h => below_drewN h nd) (Nat.le_refl _))
  have hz4 : w.heap.size + 2 ≤ (w2.drewN nd).heap.size := hz2
  have hz5 : (w2.drewN nd).heap.size = w2.heap.size := rfl
  have HSL5 : Hid (SlR (w2.drewN nd) (.slice lo vx.length lc) (u8s vx)) := Lib.hid ((HS.out.keep HKL.out (fun k hk e => by subst e; exact (HVo.out k hk).2 (Or.inr (Or.inr rfl)))).drewN nd)
  generalize w2.drewN nd = w5 at *
  have z0 : w5.frozen? ⟨w.heap.size, 0, none⟩ = false := by simp [World.frozen?, hv4]
  have z1 : w5.frozen? ⟨w.heap.size, 1, none⟩ = false := by simp [World.frozen?, hv4]
  have z2 : w5.frozen? ⟨w.heap.size, 2, none⟩ = false := by simp [World.frozen?, hv4]
  have x0 : w5.cell? ⟨w.heap.size, 0, none⟩ = some (.int .u64 0) := World.news_of_block hv4 0 _ rfl
  have x1 : w5.cell? ⟨w.heap.size, 1, none⟩ = some (.int .u64 0) := World.news_of_block hv4 1 _ rfl
  have x2 : w5.cell? ⟨w.heap.size, 2, none⟩ = some (.slice none 0 0) := World.news_of_block hv4 2 _ rfl
  have hmany : (opP A ⟨vs, vb, vx⟩ (addK g n)).many = A.many := rfl
  rw [hmany]
  have HV5 := Lib.hid hv4
  have HO5 := Lib.hid ho4
  clear hv4 ho4 hmany HV2 HO2 HO3 HV3 q0 q1 q2 q3 q7
  by_cases hmj : A.many / 2 < cnt 32 (addK g n)
  · have hdm : decide (A.many / 2 < cnt 32 (addK g n)) = true := decide_eq_true hmj
    rw [hdm]
    have HMJ := Lib.hid hmj
    clear hmj hdm
    obtain ⟨⟨_, _, _, _, _, _, _, e7⟩, _⟩ := HA4.out.cell
    obtain ⟨f5, hf5, hv5, hx5⟩ := HA4.out.op.some_ bl rfl
    have HV6 := Lib.hid hv5
    have HX6 := Lib.hid hx5
    clear hv5 hx5
    go_wp2_with (first
      | (at_delete; (refine wpList_deleteR rfl (.tmp 51) (.tmp 52) 114 29 rfl 127 uKeyed Try.underlying114 bl (N + 1) rfl hf5 (.int .u64 vs) (.int .u64 vs) rfl (u_key us) ?_)
         intro w6 hm6 hg6
         obtain ⟨hA6, hk6⟩ := HA4.out.delO hm6 hg6 HV6.out HX6.out
         have ho6 := (hk6.block (w.heap.size + 1) (by omega) (by omega)).trans HO5.out
         have hv6 := (hk6.block w.heap.size (by omega) (by omega)).trans HV5.out
         have p0 : w6.cell? ⟨w.heap.size + 1, 0, none⟩ = some (.int .u64 vs) := World.news_of_block ho6 0 _ rfl
         have p1 : w6.cell? ⟨w.heap.size + 1, 1, none⟩ = some (.int .u64 vb) := World.news_of_block ho6 1 _ rfl
         have p2 : w6.cell? ⟨w.heap.size + 1, 2, none⟩ = some (.slice lo vx.length lc) := World.news_of_block ho6 2 _ rfl
         have hsl6 : SlR w6 (.slice lo vx.length lc) (u8s vx) := (HSL5.out.keep hk6 (fun k hk e => by subst e; exact (HVo.out k hk).2 (Or.inr (Or.inr rfl))))
         have HCp := Lib.hid (lcopied_any (v := ⟨vs, vb, vx⟩) hsl6 (by show vx.length ≤ 1000000000; omega))
         have HA6 := Lib.hid hA6
         have HK6 := Lib.hid hk6
         have HV7 := Lib.hid hv6
         clear hm6 hg6 hA6 hk6 ho6 hv6 hsl6)
      | fail)
    refine HCp.out.mono ?_
    rintro e w7 ⟨co, cc, rfl, hown7, hb7⟩
    have hz6 := HK6.out.size
    have hr7 := (hb7.block w.heap.size (by omega)).trans HV7.out
    have y0 : w7.cell? ⟨w.heap.size, 0, none⟩ = some (.int .u64 0) := World.news_of_block hr7 0 _ rfl
    have y1 : w7.cell? ⟨w.heap.size, 1, none⟩ = some (.int .u64 0) := World.news_of_block hr7 1 _ rfl
    have y2 : w7.cell? ⟨w.heap.size, 2, none⟩ = some (.slice none 0 0) := World.news_of_block hr7 2 _ rfl
    have u0 : w7.frozen? ⟨w.heap.size, 0, none⟩ = false := by simp [World.frozen?, hr7]
    have u1 : w7.frozen? ⟨w.heap.size, 1, none⟩ = false := by simp [World.frozen?, hr7]
    have u2 : w7.frozen? ⟨w.heap.size, 2, none⟩ = false := by simp [World.frozen?, hr7]
    have HR7 := Lib.hid hr7
    have HO7 := Lib.hid hown7
    have HB7 := Lib.hid hb7
    clear hr7 hown7 hb7
    go_wp2_with fail
    have e1 := heap_setCell_same _ w.heap.size 0 _ _ (.int .u64 vs) HR7.out
    have e2 := heap_setCell_same _ w.heap.size 1 _ _ (.int .u64 vb) e1
    have e3 := heap_setCell_same _ w.heap.size 2 _ _ (.slice co vx.length cc) e2
    have hk8 : Keep (fun k => k = w.heap.size) w7 (((w7.setCell ⟨w.heap.size, 0, none⟩ (.int .u64 vs)).setCell ⟨w.heap.size, 1, none⟩ (.int .u64 vb)).setCell ⟨w.heap.size, 2, none⟩ (.slice co vx.length cc)) :=
      (((Keep.refl (fun k => k = w.heap.size) w7).setCell (p := ⟨w.heap.size, 0, none⟩) (Or.inl rfl) _).setCell (p := ⟨w.heap.size, 1, none⟩) (Or.inl rfl) _).setCell (p := ⟨w.heap.size, 2, none⟩) (Or.inl rfl) _
    generalize ((w7.setCell ⟨w.heap.size, 0, none⟩ (.int .u64 vs)).setCell ⟨w.heap.size, 1, none⟩ (.int .u64 vb)).setCell ⟨w.heap.size, 2, none⟩ (.slice co vx.length cc) = W8 at *
    have s0 : W8.cell? ⟨w.heap.size, 0, none⟩ = some (.int .u64 vs) := World.news_of_block e3 0 _ rfl
    have s1 : W8.cell? ⟨w.heap.size, 1, none⟩ = some (.int .u64 vb) := World.news_of_block e3 1 _ rfl
    have s2 : W8.cell? ⟨w.heap.size, 2, none⟩ = some (.slice co vx.length cc) := World.news_of_block e3 2 _ rfl
    refine bodyPost_ret (v := .tuple #[.agg #[.int .u64 vs, .int .u64 vb, .slice co vx.length cc], .bool true]) (by simp [results, Try.results39, go_sem, s0, s1, s2]) rfl ?_
    have hA6 := HA6.out
    have hod := opD_opP A ⟨vs, vb, vx⟩ (addK g n)
    simp only at hod
    rw [hod] at hA6
    have hA8 := (hA6.below HB7.out (Nat.le_refl _)).keep hk8 (fun k e hd => by
      rcases hd with hd | hd
      · have := hDl k hd; omega
      · omega)
    refine ⟨fun _ => ⟨co, cc, _, w6.heap.size, rfl, own_keepS hk8 HO7.out (fun k hk e => by have := (HO7.out.lt k hk).1; omega), by omega, fun k hk => ?_, hA8, ⟨?_, fun k hd => Or.inl hd, fun k hd => ?_⟩⟩, fun hn => absurd HMJ.out (by simpa using hn)⟩
    · rcases hk with hk | hk
      · have := hDl k hk; omega
      · omega
    · have k1 : Keep (fun k => D k ∨ w.heap.size ≤ k) w W8 := ((HKW.out.mono (fun k _ hd => Or.inl hd)).trans ((HK6.out.mono (fun k _ e => by subst e; exact Or.inl hbl)).trans (Below.keep0 _ HB7.out))).trans (hk8.mono (fun k _ e => Or.inr (by omega)))
      exact k1.mono (fun k hk hd => by
        rcases hd with hd | hd
        · exact hd
        · omega)
    · rcases hd with hd | hd
      · exact Or.inl hd
      · exact Or.inr (by omega)
  · have hdm : decide (A.many / 2 < cnt 32 (addK g n)) = false := decide_eq_false hmj
    rw [hdm]
    have HMJ := Lib.hid hmj
    clear hmj hdm
    go_wp2_with fail
    have e1 := heap_setCell_same _ w.heap.size 0 _ _ (.int .u64 0) HV5.out
    have e2 := heap_setCell_same _ w.heap.size 1 _ _ (.int .u64 0) e1
    have e3 := heap_setCell_same _ w.heap.size 2 _ _ (.slice none 0 0) e2
    have hk8 : Keep (fun k => k = w.heap.size) w5 (((w5.setCell ⟨w.heap.size, 0, none⟩ (.int .u64 0)).setCell ⟨w.heap.size, 1, none⟩ (.int .u64 0)).setCell ⟨w.heap.size, 2, none⟩ (.slice none 0 0)) :=
      (((Keep.refl (fun k => k = w.heap.size) w5).setCell (p := ⟨w.heap.size, 0, none⟩) (Or.inl rfl) _).setCell (p := ⟨w.heap.size, 1, none⟩) (Or.inl rfl) _).setCell (p := ⟨w.heap.size, 2, none⟩) (Or.inl rfl) _
    generalize ((w5.setCell ⟨w.heap.size, 0, none⟩ (.int .u64 0)).setCell ⟨w.heap.size, 1, none⟩ (.int .u64 0)).setCell ⟨w.heap.size, 2, none⟩ (.slice none 0 0) = W8 at *
    have s0 : W8.cell? ⟨w.heap.size, 0, none⟩ = some (.int .u64 0) := World.news_of_block e3 0 _ rfl
    have s1 : W8.cell? ⟨w.heap.size, 1, none⟩ = some (.int .u64 0) := World.news_of_block e3 1 _ rfl
    have s2 : W8.cell? ⟨w.heap.size, 2, none⟩ = some (.slice none 0 0) := World.news_of_block e3 2 _ rfl
    refine bodyPost_ret (v := .tuple #[.agg #[.int .u64 0, .int .u64 0, .slice none 0 0], .bool false]) (by simp [results, Try.results39, go_sem, s0, s1, s2]) rfl ?_
    refine ⟨fun hy => absurd hy (by have := HMJ.out; omega), fun _ => ⟨rfl, fun k => D k ∨ ((w.alloc (.cells #[.int .u64 0, .int .u64 0, .slice none 0 0] 39)).heap.size ≤ k ∧ k < w2.heap.size), HA4.out.keep hk8 (fun k e hd => ?_), ⟨?_, fun k hd => Or.inl hd, fun k hd => ?_⟩⟩⟩
    · rcases hd with hd | hd
      · have := hDl k hd; omega
      · omega
    · have k1 : Keep (fun k => D k ∨ w.heap.size ≤ k) w W8 := (HKW.out.mono (fun k _ hd => Or.inl hd)).trans (hk8.mono (fun k _ e => Or.inr (by omega)))
      exact k1.mono (fun k hk hd => by
        rcases hd with hd | hd
        · exact hd
        · omega)
    · rcases hd with hd | hd
      · exact Or.inl hd
      · exact Or.inr (by omega)
end Go.Proofs.Ytjdjfhioobhcjaa
