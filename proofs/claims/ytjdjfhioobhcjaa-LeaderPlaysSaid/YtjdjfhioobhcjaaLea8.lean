/-
  Package leader: Propose, where it leads.
-/
import Derived.Test.YtjdjfhioobhcjaaLea7
namespace Go.Proofs.Ytjdjfhioobhcjaa
open Go.ChangeShapes Go.WideShapes Go.ChangeAt Go.RowKit Go.Maps
set_option maxRecDepth 100000

def nextL (A : LS) : LS := ⟨A.many, A.stage, A.ballot, A.first, A.next + 1, A.prom, A.kn, A.op⟩
/-- A vote with memory of its own; the leader behind it. -/
def RetPp (D : Nat → Prop) (b0 N : Nat) (ko lo : Option Nat) (A' : LS) (v : Vt) (w : World) (e : Ending) (w' : World) : Prop :=
  ∃ ao c D' base, e = .returned (.tuple #[.agg #[.int .u64 v.slot, .int .u64 v.ballot, .slice ao v.val.length c], .int .i64 0]) ∧ w'.ownsRow base 5 1 (.slice ao v.val.length c) v.val.length (u8s v.val) ∧ w.heap.size ≤ base ∧ (∀ k, D' k → k < base) ∧
    LeaR w' D' b0 ko lo N A' ∧ Moved D D' w w'
/-- Behind the clone: the new vote lies in a block of its own. -/
def PpMid (w : World) (A : LS) (xs : List Int) (s6 : Value) (wx : World) : Prop :=
  ∃ XB ko3 kc3, s6 = .pointer (some ⟨XB, 0, none⟩) ∧ Below w.heap.size w wx ∧ wx.heap[XB]? = some (.cells #[.int .u64 A.next, .int .u64 A.ballot, .slice ko3 xs.length kc3] 39 (0, 0)) ∧ wx.heap[w.heap.size]? = some (.cells #[.int .u64 0, .int .u64 0, .slice none 0 0] 39 (0, 0)) ∧
    wx.ownsRow (w.heap.size + 1) 5 1 (.slice ko3 xs.length kc3) xs.length (u8s xs) ∧ w.heap.size < XB ∧ ∀ k, (Value.slice ko3 xs.length kc3).ownBlock = some k → k ≠ XB
theorem PpMid.behind {w w3 : World} {A : LS} {xs : List Int} {ko3 : Option Addr} {kc3 : Nat} (hb : Below (w.heap.size + 1) (w.alloc (.cells #[.int .u64 0, .int .u64 0, .slice none 0 0] 39)) w3) (ho : w3.ownsRow (w.heap.size + 1) 5 1 (.slice ko3 xs.length kc3) xs.length (u8s xs)) :
    PpMid w A xs (.pointer (some ⟨w3.heap.size, 0, none⟩)) (w3.alloc (.cells #[.int .u64 A.next, .int .u64 A.ballot, .slice ko3 xs.length kc3] 39)) := by
  have hz : (w.alloc (.cells #[.int .u64 0, .int .u64 0, .slice none 0 0] 39)).heap.size = w.heap.size + 1 := by simp
  have hs := hb.size
  have hb1 : Below w.heap.size w w3 := ((Below.refl _ _).alloc (Nat.le_refl _) _).trans (hb.mono (by omega))
  refine ⟨_, ko3, kc3, rfl, hb1.alloc (by omega) _, heap_alloc_new w3 _, ?_, ho.alloc _, by omega, fun k hk => by have := (ho.lt k hk).2; omega⟩
  exact (Below.heap_alloc _ _ _ (by omega)).trans ((hb.block w.heap.size (by omega)).trans (heap_alloc_new w _))
theorem PpMid.ahead {w w3 : World} {A : LS} {xs : List Int} {ko3 : Option Addr} {kc3 : Nat} (hb : Below (w.heap.size + 2) ((w.alloc (.cells #[.int .u64 0, .int .u64 0, .slice none 0 0] 39)).alloc (.cells #[.int .u64 0, .int .u64 0, .slice none 0 0] 39)) w3) (ho : w3.ownsRow (w.heap.size + 2) 5 1 (.slice ko3 xs.length kc3) xs.length (u8s xs)) :
    PpMid w A xs (.pointer (some ⟨w.heap.size + 1, 0, none⟩)) (((w3.setCell ⟨w.heap.size + 1, 0, none⟩ (.int .u64 A.next)).setCell ⟨w.heap.size + 1, 1, none⟩ (.int .u64 A.ballot)).setCell ⟨w.heap.size + 1, 2, none⟩ (.slice ko3 xs.length kc3)) := by
  have hz1 : (w.alloc (.cells #[.int .u64 0, .int .u64 0, .slice none 0 0] 39)).heap.size = w.heap.size + 1 := by simp
  have hz : ((w.alloc (.cells #[.int .u64 0, .int .u64 0, .slice none 0 0] 39)).alloc (.cells #[.int .u64 0, .int .u64 0, .slice none 0 0] 39)).heap.size = w.heap.size + 2 := by simp
  have hs := hb.size
  have hb1 : Below w.heap.size w w3 := (((Below.refl _ _).alloc (Nat.le_refl _) _).alloc (by simp) _).trans (hb.mono (by omega))
  have hkx0 := heap_alloc_new (w.alloc (.cells #[.int .u64 0, .int .u64 0, .slice none 0 0] 39)) (.cells #[.int .u64 0, .int .u64 0, .slice none 0 0] 39)
  rw [hz1] at hkx0
  have e0 := (hb.block (w.heap.size + 1) (by omega)).trans hkx0
  have e1 := heap_setCell_same _ (w.heap.size + 1) 0 _ _ (.int .u64 A.next) e0
  have e2 := heap_setCell_same _ (w.heap.size + 1) 1 _ _ (.int .u64 A.ballot) e1
  have e3 := heap_setCell_same _ (w.heap.size + 1) 2 _ _ (.slice ko3 xs.length kc3) e2
  have hne : ∀ k, (Value.slice ko3 xs.length kc3).ownBlock = some k → k ≠ w.heap.size + 1 := fun k hk => by have := (ho.lt k hk).1; omega
  have hk : Keep (fun k => k = w.heap.size + 1) w3 (((w3.setCell ⟨w.heap.size + 1, 0, none⟩ (.int .u64 A.next)).setCell ⟨w.heap.size + 1, 1, none⟩ (.int .u64 A.ballot)).setCell ⟨w.heap.size + 1, 2, none⟩ (.slice ko3 xs.length kc3)) :=
    (((Keep.refl (fun k => k = w.heap.size + 1) w3).setCell (p := ⟨w.heap.size + 1, 0, none⟩) (Or.inl rfl) _).setCell (p := ⟨w.heap.size + 1, 1, none⟩) (Or.inl rfl) _).setCell (p := ⟨w.heap.size + 1, 2, none⟩) (Or.inl rfl) _
  refine ⟨_, ko3, kc3, rfl, hb1.trans (hk.below (by omega) (fun k e => by omega)), by simpa using e3, ?_, (own_keepS hk ho hne).weaken (by omega), by omega, hne⟩
  exact (hk.block w.heap.size (by omega) (by omega)).trans ((hb.block w.heap.size (by omega)).trans ((Below.heap_alloc _ _ _ (by omega)).trans (heap_alloc_new w _)))
set_option maxHeartbeats 2000000 in
theorem lpropose_ok {D : Nat → Prop} {w : World} {b0 bl N : Nat} {ko : Option Nat} {A : LS} (h : LeaR w D b0 ko (some bl) N A) {sv : Value} {xs : List Int} (hs : SlR w sv (u8s xs)) (h8 : U8 xs) (hl : xs.length ≤ 1000000) (hst : A.stage = 2) (hw : A.next ≠ 18446744073709551615) (hN : N < 1000000) :
    Calls Try.prog 36 #[.pointer (some ⟨b0, 0, none⟩), sv] w (RetPp D b0 (N + 1) ko (some bl) (nextL (opP A ⟨A.next, A.ballot, xs⟩ (fun _ => false))) ⟨A.next, A.ballot, xs⟩ w) := by
  obtain ⟨so, sc, rfl, hsc1, hsc2⟩ := hs.form
  simp only [List.length_map] at hs hsc1 ⊢
  have hb1 := (Below.refl w.heap.size w).alloc (Nat.le_refl _) (.cells #[.int .u64 0, .int .u64 0, .slice none 0 0] 39)
  have hR1 := h.below hb1 (Nat.le_refl _)
  obtain ⟨⟨c0, c1, c2, c3, c4, c5, c6, c7⟩, _⟩ := hR1.cell
  have hb : (A.stage != 2) = false := by simp [hst]
  have hn : (A.next == 18446744073709551615) = false := by rw [beq_eq_false_iff_ne]; exact hw
  have HC := fun w' (hb' : Below w.heap.size w w') => Lib.hid (cloneB_any (hs.below hb' (Nat.le_refl _)) (by omega))
  have HC := Lib.hid HC
  have H := Lib.hid h
  have HB1 := Lib.hid hb1
  have hb2 := hb1.alloc (by simp) (.cells #[.int .u64 0, .int .u64 0, .slice none 0 0] 39)
  have HB2 := Lib.hid hb2
  have hkx0 := heap_alloc_new (w.alloc (.cells #[.int .u64 0, .int .u64 0, .slice none 0 0] 39)) (.cells #[.int .u64 0, .int .u64 0, .slice none 0 0] 39)
  rw [show (w.alloc (.cells #[.int .u64 0, .int .u64 0, .slice none 0 0] 39)).heap.size = w.heap.size + 1 by simp] at hkx0
  have HKx := Lib.hid hkx0
  have hb0 := LR_lt h b0 (Or.inl rfl)
  have hbn : ¬ (w.heap.size + 1 = b0) := by omega
  have hbn2 : ¬ (b0 = w.heap.size + 1) := by omega
  have hbn3 : ¬ (b0 = w.heap.size) := by omega
  have HWn := Lib.hid hw
  clear h hs hst hw hR1 hb2 hkx0
  go_enter Try.func36, Try.ntmps36
  go_upto_region 7 with fail
  go_cut [6] (fun s6 wx => PpMid w A xs s6 wx)
  case first =>
    go_region_held3 (fun w' => w'.cell? ⟨b0, 4, none⟩ = some (.int .u64 A.next) ∧ w'.cell? ⟨b0, 2, none⟩ = some (.int .u64 A.ballot)) (first | go_keep)
      (first
        | (go_at_call 61; (with_reducible refine (HC.out _ HB1.out.drew).out.mono ?_); rintro e w3 ⟨v3, rfl, hown3, hb3⟩
           obtain ⟨ko3, kc3, rfl, _, _⟩ := own_form hown3
           have HB3 := Lib.hid (HB1.out.drew.trans (hb3.mono (by simp)))
           obtain ⟨⟨_, _, e2, _, e4, _⟩, _⟩ := (H.out.below HB3.out (Nat.le_refl _)).cell
           have HO3 := Lib.hid hown3
           have HBr := Lib.hid hb3
           clear hown3 hb3)
        | (go_at_call 61; (with_reducible refine (HC.out _ HB2.out.drew).out.mono ?_); rintro e w3 ⟨v3, rfl, hown3, hb3⟩
           obtain ⟨ko3, kc3, rfl, _, _⟩ := own_form hown3
           have hkx := (hb3.block (w.heap.size + 1) (by simp)).trans HKx.out
           have x0 : w3.cell? ⟨w.heap.size + 1, 0, none⟩ = some (.int .u64 0) := World.news_of_block hkx 0 _ rfl
           have x1 : w3.cell? ⟨w.heap.size + 1, 1, none⟩ = some (.int .u64 0) := World.news_of_block hkx 1 _ rfl
           have x2 : w3.cell? ⟨w.heap.size + 1, 2, none⟩ = some (.slice none 0 0) := World.news_of_block hkx 2 _ rfl
           have z0 : w3.frozen? ⟨w.heap.size + 1, 0, none⟩ = false := by simp [World.frozen?, hkx]
           have z1 : w3.frozen? ⟨w.heap.size + 1, 1, none⟩ = false := by simp [World.frozen?, hkx]
           have z2 : w3.frozen? ⟨w.heap.size + 1, 2, none⟩ = false := by simp [World.frozen?, hkx]
           have HB3 := Lib.hid (HB2.out.drew.trans (hb3.mono (by simp; omega)))
           obtain ⟨⟨_, _, e2, _, e4, _⟩, _⟩ := (H.out.below HB3.out (Nat.le_refl _)).cell
           have HO3 := Lib.hid hown3
           have HBr := Lib.hid hb3
           clear hown3 hb3))
    all_goals (go_wp2_with fail; go_meet; first | exact PpMid.behind (Below.trans (Below.drew (Below.refl _ _)) (HBr.out.mono (by simp))) (HO3.out.weaken (by simp)) | exact PpMid.ahead (Below.trans (Below.drew (Below.refl _ _)) (HBr.out.mono (by simp))) (HO3.out.weaken (by simp)))
  case rest =>
    obtain ⟨XB, ko3, kc3, rfl, hbx, hxb, hres, hown, hlt, hne⟩ := hcut
    have HX := Lib.hid hxb
    have HRs := Lib.hid hres
    have HOw := Lib.hid hown
    have HBx := Lib.hid hbx
    have HNe := Lib.hid hne
    obtain ⟨f, hf, hv, hx⟩ := H.out.op.some_ bl rfl
    have us := H.out.num.2.2
    have ub := H.out.num.1
    have hblk : wc.drew.heap[bl]? = w.heap[bl]? := hbx.block bl hf.lt
    obtain ⟨w2, hrun, hm2, hg2⟩ := (hf.same hblk).store uKeyed Try.underlying114 (by unfold maxLen; omega) (u_key us) (val := .agg #[.int .u64 A.next, .int .u64 A.ballot, .slice ko3 xs.length kc3, .int .u32 0]) (by trivial)
    have hXs : XB < wc.heap.size := (Array.getElem?_eq_some_iff.1 hxb).1
    have hlt2 := LR_lt H.out bl (Or.inr (Or.inr rfl))
    have hcT : ∀ wm : World, Below wc.heap.size wc wm → (wm.cell? ⟨b0, 7, none⟩ = some (.map (some bl)) ∧ wm.cell? ⟨b0, 4, none⟩ = some (.int .u64 A.next)) ∧ wm.cell? ⟨XB, 0, none⟩ = some (.int .u64 A.next) ∧ wm.cell? ⟨XB, 1, none⟩ = some (.int .u64 A.ballot) ∧ wm.cell? ⟨XB, 2, none⟩ = some (.slice ko3 xs.length kc3) := by
      intro wm hbm
      obtain ⟨⟨_, _, _, _, e4, _, _, e7⟩, _⟩ := (H.out.below (HBx.out.trans (hbm.mono HBx.out.size)) (Nat.le_refl _)).cell
      have hxm := (hbm.block XB hXs).trans HX.out
      exact ⟨⟨e7, e4⟩, World.news_of_block hxm 0 _ rfl, World.news_of_block hxm 1 _ rfl, World.news_of_block hxm 2 _ rfl⟩
    have hne0 := H.out.ne.2.1 bl rfl
    obtain ⟨⟨r7, r4⟩, r0, r1, r2⟩ := hcT wc.drew (Below.refl _ _).drew
    have q7 := hg2.cell r7 (by simp; omega)
    have q4 := hg2.cell r4 (by simp; omega)
    have q0 := hg2.cell r0 (by simp; omega)
    have q1 := hg2.cell r1 (by simp; omega)
    have q2 := hg2.cell r2 (by simp; omega)
    have HM2 := Lib.hid hm2
    have HG2 := Lib.hid hg2
    have HF := Lib.hid hv
    have HXx := Lib.hid hx
    clear hxb hres hown hbx hne hf hv hx hblk hm2 hg2 hcT
    go_wp2_with fail
    go_region_held3 (fun w' => w'.cell? ⟨b0, 7, none⟩ = some (.map (some bl)) ∧ w'.cell? ⟨b0, 4, none⟩ = some (.int .u64 A.next) ∧ w'.cell? ⟨XB, 0, none⟩ = some (.int .u64 A.next) ∧ w'.cell? ⟨XB, 1, none⟩ = some (.int .u64 A.ballot) ∧ w'.cell? ⟨XB, 2, none⟩ = some (.slice ko3 xs.length kc3)) (first | go_keep)
      (first | fail)
    clear r7 r4 r0 r1 r2 q7 hrun
    have hso : ∀ k, (Value.slice ko3 xs.length kc3).ownBlock = some k → (D k ∧ ¬ LR b0 ko (some bl) k) ∨ ((w.alloc (.cells #[.int .u64 0, .int .u64 0, .slice none 0 0] 39)).heap.size ≤ k ∧ k < wc.drew.heap.size) := fun k hk => Or.inr ⟨by have := (HOw.out.lt k hk).1; simp; omega, (HOw.out.lt k hk).2⟩
    have hbx1 : Below (w.alloc (.cells #[.int .u64 0, .int .u64 0, .slice none 0 0] 39)).heap.size (w.alloc (.cells #[.int .u64 0, .int .u64 0, .slice none 0 0] 39)) wc := by
      refine ⟨HBx.out.os, HBx.out.tape, HBx.out.output, by simp; omega, fun k hk => ?_⟩
      by_cases e : k = w.heap.size
      · subst e; exact HRs.out.trans (heap_alloc_new w _).symm
      · have hk2 : k < w.heap.size := by simp at hk; omega
        exact (HBx.out.block k hk2).trans (Below.heap_alloc _ _ _ hk2).symm
    obtain ⟨hA, hkA⟩ := (H.out.below HB1.out (Nat.le_refl _)).putO (wm := wc.drew) (v := ⟨A.next, A.ballot, xs⟩) (g := fun _ => false) hbx1.drew ((SlR.of_own HOw.out).below (Below.refl _ _).drew (Nat.le_refl _)) hso (by simpa [msk_none] using HM2.out) HG2.out (fun a ha => (HF.out a ha).keep (Below.keep0 (fun _ => False) HB1.out) (fun _ hk _ => hk.elim) (fun _ h => h) (fun _ _ h => h)) HXx.out us ub h8 hl
    have HA := Lib.hid hA
    have HKA := Lib.hid hkA
    obtain ⟨⟨_, _, _, _, e4, _⟩, hz⟩ := hA.cell
    have z4 := hz 4
    have hwn : IntKind.u64.wrap (A.next + 1) = A.next + 1 := by
      have hnn := HWn.out
      obtain ⟨u1, u2⟩ := us
      exact IntWalk.u64_in _ (by constructor <;> omega)
    have hxb0 : ¬ (XB = b0) := by have := LR_lt H.out b0 (Or.inl rfl); omega
    have hb0x : ¬ (b0 = XB) := fun e => hxb0 e.symm
    clear hA hkA hz hso
    go_wp2_with fail
    have hk4 : Keep (fun k => k = b0) w2 (w2.setCell ⟨b0, 4, none⟩ (.int .u64 (A.next + 1))) := (Keep.refl (fun k => k = b0) w2).setCell (p := ⟨b0, 4, none⟩) (Or.inl rfl) _
    have hT := HA.out.turn (A' := nextL (opP A ⟨A.next, A.ballot, xs⟩ (fun _ => false))) hk4 (by simpa [nextL, opP] using heap_setCell_same w2 b0 4 _ _ (.int .u64 (A.next + 1)) HA.out.cells) rfl rfl HA.out.many ⟨ub, HA.out.num.2.1, by have hnn := HWn.out; obtain ⟨u1, u2⟩ := us; exact ⟨by show 0 ≤ A.next + 1; omega, by show A.next + 1 ≤ _; omega⟩⟩ (fun hs => hs)
    have HT := Lib.hid hT
    have hsl3 : SlR (w2.setCell ⟨b0, 4, none⟩ (.int .u64 (A.next + 1))) (.slice ko3 xs.length kc3) (u8s xs) := by
      have h1 := (SlR.of_own HOw.out).below (Below.refl _ _).drew (Nat.le_refl _)
      have h2 : SlR w2 (.slice ko3 xs.length kc3) (u8s xs) := h1.keep (Keep.grown (S := fun k => k = bl) HG2.out (fun k hk => by cases hk; rfl)) (fun k hk e => by subst e; have := (HOw.out.lt k hk).1; omega)
      exact h2.keep hk4 (fun k hk e => by subst e; have := (HOw.out.lt k hk).1; have := LR_lt H.out k (Or.inl rfl); omega)
    have hr3 : (w2.setCell ⟨b0, 4, none⟩ (.int .u64 (A.next + 1))).heap[w.heap.size]? = some (.cells #[.int .u64 0, .int .u64 0, .slice none 0 0] 39 (0, 0)) := by
      have hs0 : w.heap.size < wc.heap.size := by omega
      have h1 := (Keep.grown (S := fun k => k = bl) HG2.out (fun k hk => by cases hk; rfl)).block w.heap.size hs0 (by omega)
      have hsz2 := (Keep.grown (S := fun k => k = bl) HG2.out (fun k hk => by cases hk; rfl)).size
      exact (hk4.block w.heap.size (Nat.lt_of_lt_of_le hs0 hsz2) (by have := LR_lt H.out b0 (Or.inl rfl); omega)).trans (h1.trans HRs.out)
    have HR3 := Lib.hid hr3
    have HK4 := Lib.hid hk4
    have HC3 := Lib.hid (lcopied_any (v := ⟨A.next, A.ballot, xs⟩) hsl3 (by show xs.length ≤ 1000000000; omega))
    clear hk4 hT hsl3 hr3
    refine HC3.out.mono ?_
    rintro e w5 ⟨co, cc, rfl, hown5, hb5⟩
    have HO5 := Lib.hid hown5
    have HB5 := Lib.hid hb5
    have hs3 : w.heap.size < (w2.setCell ⟨b0, 4, none⟩ (.int .u64 (A.next + 1))).heap.size := (Array.getElem?_eq_some_iff.1 HR3.out).1
    have hr5 := (hb5.block w.heap.size hs3).trans HR3.out
    have x0 : w5.cell? ⟨w.heap.size, 0, none⟩ = some (.int .u64 0) := World.news_of_block hr5 0 _ rfl
    have x1 : w5.cell? ⟨w.heap.size, 1, none⟩ = some (.int .u64 0) := World.news_of_block hr5 1 _ rfl
    have x2 : w5.cell? ⟨w.heap.size, 2, none⟩ = some (.slice none 0 0) := World.news_of_block hr5 2 _ rfl
    have z0 : w5.frozen? ⟨w.heap.size, 0, none⟩ = false := by simp [World.frozen?, hr5]
    have z1 : w5.frozen? ⟨w.heap.size, 1, none⟩ = false := by simp [World.frozen?, hr5]
    have z2 : w5.frozen? ⟨w.heap.size, 2, none⟩ = false := by simp [World.frozen?, hr5]
    have HR5 := Lib.hid hr5
    clear hown5 hb5 hr5
    go_wp2_with fail
    have hs2 : w2.heap.size = (w2.setCell ⟨b0, 4, none⟩ (.int .u64 (A.next + 1))).heap.size := by simp
    have e1 := heap_setCell_same _ w.heap.size 0 _ _ (.int .u64 A.next) HR5.out
    have e2 := heap_setCell_same _ w.heap.size 1 _ _ (.int .u64 A.ballot) e1
    have e3 := heap_setCell_same _ w.heap.size 2 _ _ (.slice co xs.length cc) e2
    have hk6 : Keep (fun k => k = w.heap.size) w5 (((w5.setCell ⟨w.heap.size, 0, none⟩ (.int .u64 A.next)).setCell ⟨w.heap.size, 1, none⟩ (.int .u64 A.ballot)).setCell ⟨w.heap.size, 2, none⟩ (.slice co xs.length cc)) :=
      (((Keep.refl (fun k => k = w.heap.size) w5).setCell (p := ⟨w.heap.size, 0, none⟩) (Or.inl rfl) _).setCell (p := ⟨w.heap.size, 1, none⟩) (Or.inl rfl) _).setCell (p := ⟨w.heap.size, 2, none⟩) (Or.inl rfl) _
    generalize ((w5.setCell ⟨w.heap.size, 0, none⟩ (.int .u64 A.next)).setCell ⟨w.heap.size, 1, none⟩ (.int .u64 A.ballot)).setCell ⟨w.heap.size, 2, none⟩ (.slice co xs.length cc) = W6 at *
    have s0 : W6.cell? ⟨w.heap.size, 0, none⟩ = some (.int .u64 A.next) := World.news_of_block e3 0 _ rfl
    have s1 : W6.cell? ⟨w.heap.size, 1, none⟩ = some (.int .u64 A.ballot) := World.news_of_block e3 1 _ rfl
    have s2 : W6.cell? ⟨w.heap.size, 2, none⟩ = some (.slice co xs.length cc) := World.news_of_block e3 2 _ rfl
    refine bodyPost_ret (v := .tuple #[.agg #[.int .u64 A.next, .int .u64 A.ballot, .slice co xs.length cc], .int .i64 0]) (by simp [results, Try.results36, go_sem, s0, s1, s2]) rfl ?_
    have hz1 : (w.alloc (.cells #[.int .u64 0, .int .u64 0, .slice none 0 0] 39)).heap.size = w.heap.size + 1 := by simp
    have hDl : ∀ k, D k → k < w.heap.size := H.out.lt
    have hbl := H.out.dr bl (Or.inr (Or.inr rfl))
    have hbb := H.out.dr b0 (Or.inl rfl)
    have k1 : Keep (fun k => D k ∨ w.heap.size ≤ k) w W6 :=
      ((((Below.keep0 _ HB1.out).trans (HKA.out.mono (fun k _ e => by subst e; exact Or.inl hbl))).trans (HK4.out.mono (fun k _ e => by subst e; exact Or.inl hbb))).trans (Below.keep0 _ HB5.out)).trans (hk6.mono (fun k _ e => Or.inr (by omega)))
    refine ⟨co, cc, fun k => D k ∨ ((w.alloc (.cells #[.int .u64 0, .int .u64 0, .slice none 0 0] 39)).heap.size ≤ k ∧ k < w2.heap.size), _, rfl, own_keepS hk6 HO5.out (fun k hk e => by have := (HO5.out.lt k hk).1; omega), by omega, fun k hk => ?_,
      (HT.out.below HB5.out (Nat.le_refl _)).keep hk6 (fun k e hd => ?_), ⟨k1.mono (fun k hk hd => ?_), fun k hd => Or.inl hd, fun k hd => ?_⟩⟩
    · rcases hk with hk | hk
      · have := hDl k hk; omega
      · omega
    · rcases hd with hd | hd
      · have := hDl k hd; omega
      · omega
    · rcases hd with hd | hd
      · exact hd
      · omega
    · rcases hd with hd | hd
      · exact Or.inl hd
      · exact Or.inr (by omega)
end Go.Proofs.Ytjdjfhioobhcjaa
