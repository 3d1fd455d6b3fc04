/-
  Package acceptor: Forget.
-/
import Derived.Test.YtjdjfhioobhcjaaAcc
import Derived.Maps.RangeWalk
namespace Go.Proofs.Ytjdjfhioobhcjaa
open Go.ChangeShapes Go.WideShapes Go.ChangeAt Go.RowKit Go.Maps
set_option maxRecDepth 100000


def putA (A : AS) (v : Vt) : AS := ⟨v.ballot, A.low, fun a => if a = v.slot then some v else A.l a⟩
def accE (A : AS) (v : Vt) : Int := if v.ballot < A.promised then 32 else if v.slot < A.low then 15 else 0
def accR (A : AS) (v : Vt) : AS := if accE A v = 0 then putA A v else A

set_option maxHeartbeats 1000000 in
theorem accept_old {D : Nat → Prop} {w : World} {b0 bm N : Nat} {A : AS} {sv : Value} {v : Vt} (h : AccR w D b0 bm N A) (hs : SlR w sv (u8s v.val)) (hb : v.ballot < A.promised) :
    Calls Try.prog 18 #[.pointer (some ⟨b0, 0, none⟩), .agg #[.int .u64 v.slot, .int .u64 v.ballot, sv]] w fun e w' => e = .returned (.int .i64 32) ∧ Below w.heap.size w w' := by
  obtain ⟨slot, ballot, xs⟩ := v
  simp only at hs hb
  obtain ⟨ao, c, rfl, _, _⟩ := hs.form
  simp only [List.length_map] at hs
  have hb1 := (Below.refl w.heap.size w).alloc (Nat.le_refl _) (.cells #[.int .u64 slot, .int .u64 ballot, .slice ao xs.length c] 39)
  obtain ⟨c0, c1, c2, _⟩ := (h.below hb1 (Nat.le_refl _)).cell
  have hd : decide (ballot < A.promised) = true := decide_eq_true hb
  have HB := Lib.hid hb1
  clear hb1 h hs hb
  go_enter Try.func18, Try.ntmps18
  go_wp2_with fail
  go_quiet (fail)
  go_wp2_with fail
  go_ret
  exact ⟨rfl, below_drewN HB.out _⟩
set_option maxHeartbeats 1000000 in
theorem accept_range {D : Nat → Prop} {w : World} {b0 bm N : Nat} {A : AS} {sv : Value} {v : Vt} (h : AccR w D b0 bm N A) (hs : SlR w sv (u8s v.val)) (hb : A.promised ≤ v.ballot) (hl : v.slot < A.low) :
    Calls Try.prog 18 #[.pointer (some ⟨b0, 0, none⟩), .agg #[.int .u64 v.slot, .int .u64 v.ballot, sv]] w fun e w' => e = .returned (.int .i64 15) ∧ Below w.heap.size w w' := by
  obtain ⟨slot, ballot, xs⟩ := v
  simp only at hs hb hl
  obtain ⟨ao, c, rfl, _, _⟩ := hs.form
  simp only [List.length_map] at hs
  have hb1 := (Below.refl w.heap.size w).alloc (Nat.le_refl _) (.cells #[.int .u64 slot, .int .u64 ballot, .slice ao xs.length c] 39)
  obtain ⟨c0, c1, c2, _⟩ := (h.below hb1 (Nat.le_refl _)).cell
  have hd : decide (ballot < A.promised) = false := decide_eq_false (by omega)
  have hd2 : decide (slot < A.low) = true := decide_eq_true hl
  have HB := Lib.hid hb1
  clear hb1 h hs hb hl
  go_enter Try.func18, Try.ntmps18
  go_wp2_with fail
  go_quiet (fail)
  go_wp2_with fail
  go_quiet (fail)
  go_wp2_with fail
  go_ret
  exact ⟨rfl, by first | exact below_drewN HB.out _ | exact below_drewN (below_drewN HB.out _) _⟩

/-- A vote is stored. -/
theorem AccR.put {D : Nat → Prop} {w wm w2 : World} {b0 bm N B : Nat} {A : AS} {v : Vt} {sv : Value} {f : Lit → Option Value} (h : AccR w D b0 bm N A) (hB : w.heap.size ≤ B) (hb : Below w.heap.size w wm)
    (hown : wm.ownsRow B 5 1 sv v.val.length (u8s v.val)) (hm : MapR w2 Try.prog 29 bm (N + 1) (putF f (.int .u64 v.slot) (.agg #[.int .u64 v.slot, .int .u64 v.ballot, sv]))) (hg : wm.grownBy w2 (some bm))
    (hf : ∀ a : Int, U1 a → VtV w D b0 bm (f (.int .u64 a)) (A.l a)) (hx : ∀ kl, (f kl).isSome = true → ∃ a : Int, U1 a ∧ kl = .int .u64 a) (us : U1 v.slot) (ub : U1 v.ballot) (ux : U8 v.val) (lx : v.val.length ≤ 1000000) :
    AccR w2 (fun k => D k ∨ (w.heap.size ≤ k ∧ k < w2.heap.size)) b0 bm (N + 1) ⟨A.promised, A.low, fun a => if a = v.slot then some v else A.l a⟩ ∧ Keep (fun k => k = bm) w w2 := by
  have hkg : Keep (fun k => k = bm) wm w2 := Keep.grown hg (fun k hk => by cases hk; rfl)
  have hk : Keep (fun k => k = bm) w w2 := (Below.keep0 _ hb).trans hkg
  have hbm := h.lt _ h.dm
  have hb0 := h.lt _ h.d0
  have hne := h.ne
  refine ⟨⟨(hk.block b0 hb0 (fun e => hne e.symm)).trans h.cells, fun k hd => ?_, Or.inl h.d0, Or.inl h.dm, h.ne, ⟨⟨_, hm, fun a ha => ?_, fun kl hkl => ?_⟩, fun a x hx' => ?_⟩, h.num⟩, hk⟩
  · rcases hd with hd | hd
    · exact Nat.lt_of_lt_of_le (h.lt k hd) hk.size
    · exact hd.2
  · rw [putF_int]
    simp only
    by_cases e : a = v.slot
    · rw [if_pos e, if_pos e]
      refine ⟨sv, rfl, (SlR.of_own hown).keep hkg (fun k hk' hs => ?_), fun k hk' => ?_⟩
      · have := (hown.lt k hk').1
        omega
      · have h1 := hown.lt k hk'
        have := hkg.size
        exact ⟨Or.inr ⟨by omega, by omega⟩, by omega, by omega⟩
    · rw [if_neg e, if_neg e]
      exact (hf a ha).keep hk (fun k hs _ => Or.inr hs) (fun k hd => Or.inl hd)
  · unfold putF at hkl
    by_cases e : kl = .int .u64 v.slot
    · exact ⟨v.slot, us, e⟩
    · rw [if_neg e] at hkl; exact hx kl hkl
  · simp only at hx'
    by_cases e : a = v.slot
    · rw [if_pos e] at hx'; cases hx'
      subst e
      exact ⟨us, rfl, ub, ux, lx⟩
    · rw [if_neg e] at hx'; exact h.map.small a x hx'
set_option maxHeartbeats 2000000 in
theorem accept_ok {D : Nat → Prop} {w : World} {b0 bm N : Nat} {A : AS} {sv : Value} {v : Vt} (h : AccR w D b0 bm N A) (hs : SlR w sv (u8s v.val)) (hb : A.promised ≤ v.ballot) (hl : A.low ≤ v.slot) (us : U1 v.slot) (ub : U1 v.ballot) (ux : U8 v.val) (lx : v.val.length ≤ 1000000) (hN : N < 1000000) :
    Calls Try.prog 18 #[.pointer (some ⟨b0, 0, none⟩), .agg #[.int .u64 v.slot, .int .u64 v.ballot, sv]] w fun e w' => e = .returned (.int .i64 0) ∧ ∃ D', AccR w' D' b0 bm (N + 1) (putA A v) ∧ Moved D D' w w' := by
  obtain ⟨ao, c, rfl, hc1, hc2⟩ := hs.form
  simp only [List.length_map] at hs hc1 ⊢
  have hb1 := (Below.refl w.heap.size w).alloc (Nat.le_refl _) (.cells #[.int .u64 v.slot, .int .u64 v.ballot, .slice ao v.val.length c] 39)
  have h1 := (h.below hb1 (Nat.le_refl _))
  obtain ⟨c0, c1, c2, z0, z1⟩ := h1.cell
  have hd : decide (v.ballot < A.promised) = false := decide_eq_false (by omega)
  have hd2 : decide (v.slot < A.low) = false := decide_eq_false (by omega)
  have hb0 := h.lt _ h.d0
  have hbm := h.lt _ h.dm
  have hW : ∀ n : Nat, ∃ W1, W1 = ((w.alloc (.cells #[.int .u64 v.slot, .int .u64 v.ballot, .slice ao v.val.length c] 39)).drewN n).setCell ⟨b0, 0, none⟩ (.int .u64 v.ballot) ∧ AccR W1 D b0 bm N ⟨v.ballot, A.low, A.l⟩ ∧ Keep (fun k => k = b0) w W1 ∧ W1.heap.size = w.heap.size + 1 ∧
      W1.heap[w.heap.size]? = some (.cells #[.int .u64 v.slot, .int .u64 v.ballot, .slice ao v.val.length c] 39 (0, 0)) ∧ SlR W1 (.slice ao v.val.length c) (u8s v.val) := by
    intro n
    have hbn := below_drewN hb1 n
    have hRn := h.below hbn (Nat.le_refl _)
    have hk1 : Keep (fun k => k = b0) w (((w.alloc (.cells #[.int .u64 v.slot, .int .u64 v.ballot, .slice ao v.val.length c] 39)).drewN n).setCell ⟨b0, 0, none⟩ (.int .u64 v.ballot)) := Keep.setCell (S := fun k => k = b0) (Below.keep0 _ hbn) (p := ⟨b0, 0, none⟩) (Or.inl rfl) _
    refine ⟨_, rfl, hRn.setP ub, hk1, by simp [World.setCell], ?_, ?_⟩
    · exact (Below.heap_setCell _ _ _ _ (by show w.heap.size ≠ b0; omega)).trans (heap_alloc_new w _)
    · refine SlR.setOther (hs.below hbn (Nat.le_refl _)) (p := ⟨b0, 0, none⟩) (old := .int .u64 A.promised) hRn.cell.1 (u8s_ne (fun x e => by cases e)) _
  have HW := Lib.hid hW
  clear hb1 h hs hb hl h1 hW
  go_enter Try.func18, Try.ntmps18
  go_wp2_with fail
  go_quiet (fail)
  go_wp2_with fail
  go_quiet (fail)
  go_wp2_with fail
  obtain ⟨W1, hW1, h1, hk1, hsz, hblk, hsl⟩ := HW.out _
  rw [← hW1]
  clear hW1 HW c0 c1 c2 z0 z1 hd hd2
  obtain ⟨f, hf, hvals, hvx⟩ := h1.map.vals
  have hb0' := h1.lt _ h1.d0
  have hcT : ∀ wm : World, Below W1.heap.size W1 wm → (wm.cell? ⟨b0, 2, none⟩ = some (.map (some bm)) ∧ wm.cell? ⟨w.heap.size, 0, none⟩ = some (.int .u64 v.slot) ∧ wm.cell? ⟨w.heap.size, 1, none⟩ = some (.int .u64 v.ballot) ∧ wm.cell? ⟨w.heap.size, 2, none⟩ = some (.slice ao v.val.length c)) := by
    intro wm hbx
    have hbl := (hbx.block w.heap.size (by omega)).trans hblk
    exact ⟨(hbx.cell (p := ⟨b0, 2, none⟩) hb0').trans h1.cell.2.2.1, World.news_of_block hbl 0 _ rfl, World.news_of_block hbl 1 _ rfl, World.news_of_block hbl 2 _ rfl⟩
  have hstep : ∀ wm : World, Below W1.drew.heap.size W1.drew wm → ∀ vm, ∃ w2, (Instr.mapUpdate 105 (.map (some bm)) (.int .u64 v.slot) vm).run Try.prog wm = .ok () w2 ∧ MapR w2 Try.prog 29 bm (N + 1) (putF f (.int .u64 v.slot) vm) ∧ wm.grownBy w2 (some bm) ∧
      (w2.cell? ⟨b0, 2, none⟩ = some (.map (some bm)) ∧ w2.cell? ⟨w.heap.size, 0, none⟩ = some (.int .u64 v.slot) ∧ w2.cell? ⟨w.heap.size, 1, none⟩ = some (.int .u64 v.ballot) ∧ w2.cell? ⟨w.heap.size, 2, none⟩ = some (.slice ao v.val.length c)) := by
    intro wm hbx vm
    have hbx' : Below W1.heap.size W1 wm := (Below.refl _ W1).drew.trans hbx
    obtain ⟨w2, g1, g2, g3⟩ := (hf.same (hbx'.block bm hf.lt)).store uKeyed Try.underlying105 (by unfold maxLen; omega) (u_key us) (val := vm) (by trivial)
    have hc := hcT wm hbx'
    have hne := h1.ne
    have hbmw : bm < w.heap.size := hbm
    exact ⟨w2, g1, g2, g3, g3.cell hc.1 (by simp; omega), g3.cell hc.2.1 (by simp; omega), g3.cell hc.2.2.1 (by simp; omega), g3.cell hc.2.2.2 (by simp; omega)⟩
  have hcS := hcT W1.drew (Below.refl _ W1).drew
  have HCp := Lib.hid (copied_any (hsl.below (Below.refl _ W1).drew (Nat.le_refl _)) (by omega : v.val.length ≤ 1000000000))
  have HT := Lib.hid hcT
  have HStep := Lib.hid hstep
  have H1 := Lib.hid h1
  have HK1 := Lib.hid hk1
  have HF := Lib.hid hvals
  have HX := Lib.hid hvx
  clear hcT hstep h1 hk1 hvals hvx hf hblk hsl
  go_region_held3 (fun w' => w'.cell? ⟨b0, 2, none⟩ = some (.map (some bm)) ∧ w'.cell? ⟨w.heap.size, 0, none⟩ = some (.int .u64 v.slot) ∧ w'.cell? ⟨w.heap.size, 1, none⟩ = some (.int .u64 v.ballot) ∧ w'.cell? ⟨w.heap.size, 2, none⟩ = some (.slice ao v.val.length c)) (first | go_keep | exact hcS | exact hcB | exact hcC)
    (first
      | (go_at_call 54
         refine HCp.out.mono ?_
         rintro e wm ⟨ko, kc, rfl, hown, hbx⟩
         have hcB := HT.out wm ((Below.refl _ W1).drew.trans hbx)
         obtain ⟨w2, hrun, hm2, hg2, hcC⟩ := HStep.out wm hbx (.agg #[.int .u64 v.slot, .int .u64 v.ballot, .slice ko v.val.length kc])
         have hown := Lib.hid hown
         have hm2 := Lib.hid hm2
         have hg2 := Lib.hid hg2
         have hbx := Lib.hid hbx))
  go_wp2_with fail
  go_ret
  obtain ⟨hA, hkA⟩ := AccR.put H1.out (Nat.le_refl _) ((Below.refl _ W1).drew.trans hbx.out) hown.out hm2.out hg2.out HF.out HX.out us ub ux lx
  refine ⟨rfl, _, hA, ⟨?_, fun k hk => Or.inl hk, fun k hk => ?_⟩⟩
  · exact (HK1.out.mono (fun k _ e => by subst e; exact H1.out.d0)).trans (hkA.mono (fun k _ e => by subst e; exact H1.out.dm))
  · rcases hk with hk | hk
    · exact Or.inl hk
    · exact Or.inr (by omega)
end Go.Proofs.Ytjdjfhioobhcjaa

namespace Go.Proofs.Ytjdjfhioobhcjaa
open Go.ChangeShapes Go.WideShapes Go.ChangeAt Go.RowKit Go.Maps
set_option maxRecDepth 100000

def vOr (A : AS) (slot : Int) : Vt := (A.l slot).getD ⟨0, 0, []⟩
theorem vOr_some {A : AS} {slot : Int} {v : Vt} (h : A.l slot = some v) : vOr A slot = v := by unfold vOr; rw [h]; rfl
/-- What is found at a slot. -/
theorem AccR.look {D : Nat → Prop} {w : World} {b0 bm N : Nat} {A : AS} (h : AccR w D b0 bm N A) {slot : Int} (us : U1 slot) : ∃ ao c,
    (∀ w' : World, w'.heap[bm]? = w.heap[bm]? → (Instr.lookup 105 (.map (some bm)) (.int .u64 slot) true).run Try.prog w' = .ok (.tuple #[.agg #[.int .u64 (vOr A slot).slot, .int .u64 (vOr A slot).ballot, .slice ao (vOr A slot).val.length c], .bool (A.l slot).isSome]) w') ∧
    (∀ w' : World, w'.heap[bm]? = w.heap[bm]? → (Instr.lookup 105 (.map (some bm)) (.int .u64 slot) false).run Try.prog w' = .ok (.agg #[.int .u64 (vOr A slot).slot, .int .u64 (vOr A slot).ballot, .slice ao (vOr A slot).val.length c]) w') ∧
    SlR w (.slice ao (vOr A slot).val.length c) (u8s (vOr A slot).val) ∧ (vOr A slot).val.length ≤ 1000000 ∧ (vOr A slot).val.length ≤ c ∧ c ≤ 9223372036854775807 := by
  obtain ⟨f, hf, hv, hx⟩ := h.map.vals
  have hval := hv slot us
  have h1 := fun (w' : World) (hw : w'.heap[bm]? = w.heap[bm]?) => (hf.same hw).look_ok uKeyed Try.underlying105 (zeroVote w') (u_key us)
  have h2 := fun (w' : World) (hw : w'.heap[bm]? = w.heap[bm]?) => (hf.same hw).look uKeyed Try.underlying105 (zeroVote w') (u_key us)
  cases hl : A.l slot with
  | none =>
    rw [hl] at hval
    have hval : f (.int .u64 slot) = none := hval
    rw [hval] at h1 h2
    have e : vOr A slot = ⟨0, 0, []⟩ := by unfold vOr; rw [hl]; rfl
    rw [e]
    exact ⟨none, 0, h1, h2, SlR.nil w, by simp, by simp, by omega⟩
  | some v =>
    rw [hl] at hval
    obtain ⟨sv, e1, e2, _⟩ := hval
    obtain ⟨hs1, hs2, hs3, hs4, hs5⟩ := h.map.small slot v hl
    rw [e1] at h1 h2
    obtain ⟨ao, c, rfl, g1, g2⟩ := e2.form
    simp only [List.length_map] at e2 g1 h1 h2
    have e : vOr A slot = v := vOr_some hl
    rw [e]
    exact ⟨ao, c, h1, h2, e2, hs5, g1, g2⟩
/-- A vote in new memory, and whether there is one. -/
def RetVd (w : World) (v : Vt) (is : Bool) (e : Ending) (w' : World) : Prop := ∃ ao c, e = .returned (.tuple #[.agg #[.int .u64 v.slot, .int .u64 v.ballot, .slice ao v.val.length c], .bool is]) ∧ w'.ownsRow w.heap.size 5 1 (.slice ao v.val.length c) v.val.length (u8s v.val) ∧ Below w.heap.size w w'
set_option maxHeartbeats 1000000 in
theorem voted_any {D : Nat → Prop} {w : World} {b0 bm N : Nat} {A : AS} (h : AccR w D b0 bm N A) {slot : Int} (us : U1 slot) :
    Calls Try.prog 27 #[.pointer (some ⟨b0, 0, none⟩), .int .u64 slot] w (RetVd w (vOr A slot) (A.l slot).isSome) := by
  obtain ⟨ao, c, hl, _, hsl, hlen, hc1, hc2⟩ := h.look us
  generalize (A.l slot).isSome = is at *
  generalize vOr A slot = v at *
  have hb1 := (Below.refl w.heap.size w).alloc (Nat.le_refl _) (.cells #[.int .u64 0, .int .u64 0, .slice none 0 0] 39)
  have hs1 : (w.alloc (.cells #[.int .u64 0, .int .u64 0, .slice none 0 0] 39)).heap.size = w.heap.size + 1 := by simp
  have hl1 := hl _ (hb1.block bm (h.lt _ h.dm))
  have c2 := (hb1.cell (p := ⟨b0, 2, none⟩) (h.lt _ h.d0)).trans h.cell.2.2.1
  have hk1 := heap_alloc_new w (.cells #[.int .u64 0, .int .u64 0, .slice none 0 0] 39)
  have hb2 := hb1.alloc (by simp) (.cells #[.int .u64 v.slot, .int .u64 v.ballot, .slice ao v.val.length c] 39)
  have HC := Lib.hid (copied_any (hsl.below hb2 (Nat.le_refl _)) (by omega : v.val.length ≤ 1000000000))
  have hk2 : ((w.alloc (.cells #[.int .u64 0, .int .u64 0, .slice none 0 0] 39)).alloc (.cells #[.int .u64 v.slot, .int .u64 v.ballot, .slice ao v.val.length c] 39)).heap[w.heap.size]? = _ := (Below.heap_alloc _ _ _ (by simp)).trans hk1
  have HB2 := Lib.hid hb2
  have HK2 := Lib.hid hk2
  clear hb1 hb2 hk2 hk1 h hl hsl
  go_enter Try.func27, Try.ntmps27
  go_wp2_with fail
  refine HC.out.mono ?_
  rintro e w3 ⟨ko, kc, rfl, hown, hb3⟩
  have k2 := (hb3.block w.heap.size (by simp; omega)).trans HK2.out
  have r0 : w3.cell? ⟨w.heap.size, 0, none⟩ = some (.int .u64 0) := World.news_of_block k2 0 _ rfl
  have r1 : w3.cell? ⟨w.heap.size, 1, none⟩ = some (.int .u64 0) := World.news_of_block k2 1 _ rfl
  have r2 : w3.cell? ⟨w.heap.size, 2, none⟩ = some (.slice none 0 0) := World.news_of_block k2 2 _ rfl
  have y0 : w3.frozen? ⟨w.heap.size, 0, none⟩ = false := by simp [World.frozen?, k2]
  have y1 : w3.frozen? ⟨w.heap.size, 1, none⟩ = false := by simp [World.frozen?, k2]
  have y2 : w3.frozen? ⟨w.heap.size, 2, none⟩ = false := by simp [World.frozen?, k2]
  have b1 := heap_setCell_same _ w.heap.size 0 _ _ (.int .u64 v.slot) k2
  have b2 := heap_setCell_same _ w.heap.size 1 _ _ (.int .u64 v.ballot) b1
  have b3 := heap_setCell_same _ w.heap.size 2 _ _ (.slice ko v.val.length kc) b2
  have S0 := Lib.hid (World.news_of_block b3 0 _ rfl)
  have S1 := Lib.hid (World.news_of_block b3 1 _ rfl)
  have S2 := Lib.hid (World.news_of_block b3 2 _ rfl)
  have hge : ∀ k, (Value.slice ko v.val.length kc).ownBlock = some k → w.heap.size + 2 ≤ k := fun k hk => by have := (hown.lt k hk).1; simp at this; omega
  have HO := Lib.hid (hown.weaken (base' := w.heap.size) (by have := HB2.out.size; exact this))
  have HG := Lib.hid hge
  have HB3 := Lib.hid (HB2.out.trans (hb3.mono HB2.out.size))
  clear k2 b1 b2 b3 hown hb3 hge
  go_wp2_with fail
  obtain ⟨W4, HW4⟩ : ∃ x, x = ((w3.setCell ⟨w.heap.size, 0, none⟩ (.int .u64 v.slot)).setCell ⟨w.heap.size, 1, none⟩ (.int .u64 v.ballot)).setCell ⟨w.heap.size, 2, none⟩ (.slice ko v.val.length kc) := ⟨_, rfl⟩
  rw [← HW4] at S0 S1 S2 ⊢
  have s0 : W4.cell? ⟨w.heap.size, 0, none⟩ = some (.int .u64 v.slot) := S0.out
  have s1 : W4.cell? ⟨w.heap.size, 1, none⟩ = some (.int .u64 v.ballot) := S1.out
  have s2 : W4.cell? ⟨w.heap.size, 2, none⟩ = some (.slice ko v.val.length kc) := S2.out
  refine bodyPost_ret (v := .tuple #[.agg #[.int .u64 v.slot, .int .u64 v.ballot, .slice ko v.val.length kc], .bool is]) (by simp [results, Try.results27, go_sem, s0, s1, s2]) rfl ?_
  subst HW4
  refine ⟨ko, kc, rfl, ?_, ?_⟩
  · refine own_keep HO.out (fun b hb => ?_)
    have := HG.out b hb
    repeat rw [Below.heap_setCell _ _ _ _ (by simp; omega)]
  · exact ((HB3.out.setCell (by simp) _).setCell (by simp) _).setCell (by simp) _

/-- An acceptor at p, all of whose blocks are of D; its votes' slots are few. -/
def AccO (p : Value) (D : Nat → Prop) (w : World) (N : Nat) (A : AS) : Prop := (∃ b0 bm n, p = .pointer (some ⟨b0, 0, none⟩) ∧ AccR w D b0 bm n A ∧ n ≤ N) ∧ ∃ K : List Int, K.length ≤ N ∧ ∀ x, (A.l x).isSome = true → x ∈ K
theorem AccO.step {p : Value} {D : Nat → Prop} {w w' : World} {N : Nat} {A : AS} (h : AccO p D w N A) (hb : Below w.heap.size w w') : AccO p D w' N A := by
  obtain ⟨⟨b0, bm, n, h1, h2, h3⟩, h4⟩ := h
  exact ⟨⟨b0, bm, n, h1, h2.below hb (Nat.le_refl _), h3⟩, h4⟩
theorem AccO.lt {p : Value} {D : Nat → Prop} {w : World} {N : Nat} {A : AS} (h : AccO p D w N A) : ∀ k, D k → k < w.heap.size := by
  obtain ⟨⟨b0, bm, n, h1, h2, h3⟩, h4⟩ := h; exact h2.lt
theorem AccO.mono {p : Value} {D : Nat → Prop} {w : World} {N M : Nat} {A : AS} (h : AccO p D w N A) (hm : N ≤ M) : AccO p D w M A := by
  obtain ⟨⟨b0, bm, n, h1, h2, h3⟩, K, h4, h5⟩ := h
  exact ⟨⟨b0, bm, n, h1, h2, by omega⟩, K, by omega, h5⟩
theorem anew_o (w : World) : Calls Try.prog 16 #[] w fun e w' => ∃ b0 D, e = .returned (.pointer (some ⟨b0, 0, none⟩)) ∧ AccO (.pointer (some ⟨b0, 0, none⟩)) D w' 0 emptyAS ∧ (∀ k, D k → w.heap.size ≤ k) ∧ Below w.heap.size w w' :=
  (anew_any w).mono fun _ _ ⟨h1, h2, h3⟩ => ⟨_, _, h1, ⟨⟨_, _, _, rfl, h2, Nat.le_refl _⟩, [], Nat.le_refl _, fun x hx => by cases hx⟩, fun k hk => hk.1, h3⟩
theorem AccO.promised {p : Value} {D : Nat → Prop} {w : World} {N : Nat} {A : AS} (h : AccO p D w N A) : Calls Try.prog 19 #[p] w fun e w' => e = .returned (.int .u64 A.promised) ∧ w = w' := by
  obtain ⟨⟨b0, bm, n, rfl, h2, h3⟩, h4⟩ := h; exact promised_any h2
theorem AccO.low {p : Value} {D : Nat → Prop} {w : World} {N : Nat} {A : AS} (h : AccO p D w N A) : Calls Try.prog 21 #[p] w fun e w' => e = .returned (.int .u64 A.low) ∧ w = w' := by
  obtain ⟨⟨b0, bm, n, rfl, h2, h3⟩, h4⟩ := h; exact alow_any h2
theorem AccO.voted {p : Value} {D : Nat → Prop} {w : World} {N : Nat} {A : AS} (h : AccO p D w N A) {slot : Int} (us : U1 slot) : Calls Try.prog 27 #[p, .int .u64 slot] w (RetVd w (vOr A slot) (A.l slot).isSome) := by
  obtain ⟨⟨b0, bm, n, rfl, h2, h3⟩, h4⟩ := h; exact voted_any h2 us
theorem AccO.accept {p : Value} {D : Nat → Prop} {w : World} {N : Nat} {A : AS} (h : AccO p D w N A) {sv : Value} {v : Vt} (hs : SlR w sv (u8s v.val)) (us : U1 v.slot) (ub : U1 v.ballot) (ux : U8 v.val) (lx : v.val.length ≤ 1000000) (hN : N < 1000000) :
    Calls Try.prog 18 #[p, .agg #[.int .u64 v.slot, .int .u64 v.ballot, sv]] w fun e w' => e = .returned (.int .i64 (accE A v)) ∧ ∃ D', AccO p D' w' (N + 1) (accR A v) ∧ Moved D D' w w' := by
  have h0 := h
  obtain ⟨⟨b0, bm, n, rfl, h2, h3⟩, K, h4, h5⟩ := h
  unfold accR accE
  by_cases hb : v.ballot < A.promised
  · rw [if_pos hb, if_neg (by decide)]
    exact (accept_old h2 hs hb).mono fun e w' ⟨e1, hb⟩ => ⟨e1, D, (h0.step hb).mono (Nat.le_succ _), Moved.of (Below.keep0 D hb)⟩
  · rw [if_neg hb]
    by_cases hl : v.slot < A.low
    · rw [if_pos hl, if_neg (by decide)]
      exact (accept_range h2 hs (by omega) hl).mono fun e w' ⟨e1, hb⟩ => ⟨e1, D, (h0.step hb).mono (Nat.le_succ _), Moved.of (Below.keep0 D hb)⟩
    · rw [if_neg hl, if_pos rfl]
      refine (accept_ok h2 hs (by omega) (by omega) us ub ux lx (by omega)).mono fun e w' ⟨e1, D', g1, g2⟩ => ⟨e1, D', ⟨⟨b0, bm, _, rfl, g1, by omega⟩, v.slot :: K, by simp; omega, fun x hx => ?_⟩, g2⟩
      unfold putA at hx
      simp only at hx
      by_cases e : x = v.slot
      · subst e; simp
      · rw [if_neg e] at hx; exact List.mem_cons_of_mem _ (h5 x hx)
end Go.Proofs.Ytjdjfhioobhcjaa

namespace Go.Proofs.Ytjdjfhioobhcjaa
open Go.ChangeShapes Go.WideShapes Go.ChangeAt Go.RowKit Go.Maps
set_option maxRecDepth 100000

def forgA (A : AS) (slot : Int) : AS := if slot ≤ A.low then A else ⟨A.promised, slot, fun a => if a < slot then none else A.l a⟩
theorem forget_none {D : Nat → Prop} {w : World} {b0 bm N : Nat} {A : AS} (h : AccR w D b0 bm N A) {slot : Int} (hs : slot ≤ A.low) :
    Calls Try.prog 20 #[.pointer (some ⟨b0, 0, none⟩), .int .u64 slot] w fun e w' => e = .returned (.tuple #[]) ∧ w = w' := by
  obtain ⟨c0, c1, c2, _⟩ := h.cell
  have hd : decide (slot ≤ A.low) = true := decide_eq_true hs
  clear h hs
  go_enter Try.func20, Try.ntmps20
  go_wp2_with fail
  first | (refine bodyPost_ret (results_none rfl _ _ _) rfl ?_) | go_end0
  exact ⟨rfl, rfl⟩
/-- What a map reads as, by a function. -/
def MapD (D : DataW Value) (f : Lit → Option Value) : Prop := IsMap D ∧ ∀ kl, (has D kl = (f kl).isSome) ∧ ∀ v, f kl = some v → ∀ z, D.atKey kl z = .held v
theorem MapD.del {D : DataW Value} {f : Lit → Option Value} (h : MapD D f) (kl : Lit) : MapD (D.del kl) (delF f kl) := by
  refine ⟨h.1.del _, fun x => ?_⟩
  unfold delF
  by_cases hx : x = kl
  · subst hx
    rw [if_pos rfl]
    exact ⟨has_del_same, fun v hv => by cases hv⟩
  · rw [if_neg hx]
    exact ⟨by rw [has_del_other hx]; exact (h.2 x).1, fun v hv z => by rw [atKey_del_other hx]; exact (h.2 x).2 v hv z⟩
/-- What is left of a map while those below a slot go. -/
def Goes (f0 f : Lit → Option Value) (left : Lit → Bool) (slot : Int) : Prop := (∀ a : Int, U1 a → f (.int .u64 a) = if a < slot ∧ left (.int .u64 a) = false then none else f0 (.int .u64 a)) ∧ (∀ kl, (f kl).isSome = true → (f0 kl).isSome = true)
theorem Goes.start (f0 : Lit → Option Value) (D : DataW Value) (h : MapD D f0) (slot : Int) : Goes f0 f0 (has D) slot := by
  refine ⟨fun a _ => ?_, fun kl h => h⟩
  by_cases e : a < slot ∧ has D (.int .u64 a) = false
  · rw [if_pos e]
    have := (h.2 (.int .u64 a)).1
    rw [e.2] at this
    cases hf : f0 (.int .u64 a) with
    | none => rfl
    | some v => rw [hf] at this; cases this
  · rw [if_neg e]
theorem Goes.gone {f0 f : Lit → Option Value} {left : Lit → Bool} {slot x : Int} (h : Goes f0 f left slot) (hx : x < slot) : Goes f0 (delF f (.int .u64 x)) (fun z => left z && !z.sameKey (.int .u64 x)) slot := by
  refine ⟨fun a ha => ?_, fun kl hk => ?_⟩
  · rw [delF_int, h.1 a ha]
    by_cases e : a = x
    · subst e; simp [Lit.sameKey, hx]
    · rw [if_neg e]; simp [Lit.sameKey, e]
  · unfold delF at hk
    split at hk
    · cases hk
    · exact h.2 kl hk
theorem Goes.stays {f0 f : Lit → Option Value} {left : Lit → Bool} {slot x : Int} (h : Goes f0 f left slot) (hx : ¬ x < slot) : Goes f0 f (fun z => left z && !z.sameKey (.int .u64 x)) slot := by
  refine ⟨fun a ha => ?_, h.2⟩
  rw [h.1 a ha]
  by_cases e : a = x
  · subst e; simp [hx]
  · simp [Lit.sameKey, e]
set_option maxHeartbeats 2000000 in
theorem forget_some {D : Nat → Prop} {w : World} {b0 bm N : Nat} {A : AS} (h : AccR w D b0 bm N A) {slot : Int} (us : U1 slot) (hs : A.low < slot) :
    Calls Try.prog 20 #[.pointer (some ⟨b0, 0, none⟩), .int .u64 slot] w fun e w' => e = .returned (.tuple #[]) ∧ AccR w' D b0 bm N ⟨A.promised, slot, fun a => if a < slot then none else A.l a⟩ ∧ Keep D w w' := by
  obtain ⟨c0, c1, c2, z0, z1⟩ := h.cell
  have hd : decide (slot ≤ A.low) = false := decide_eq_false (by omega)
  have h1 := h.setL us
  have hb0 := h.lt _ h.d0
  have hsz : (w.setCell ⟨b0, 1, none⟩ (.int .u64 slot)).heap.size = w.heap.size := by simp [World.setCell]
  have hk1 : Keep D w (w.setCell ⟨b0, 1, none⟩ (.int .u64 slot)) := (Keep.refl D w).setCell (p := ⟨b0, 1, none⟩) (Or.inl h.d0) _
  obtain ⟨f0, ⟨D0, hown, hm, hf⟩, hv, hx⟩ := h1.map.vals
  have e2 := h1.cell.2.2.1
  have H1 := Lib.hid h1
  have HK1 := Lib.hid hk1
  have HV := Lib.hid hv
  have HX := Lib.hid hx
  have HM : Hid (MapD D0 f0) := Lib.hid ⟨hm, hf⟩
  have hds := h.ne
  clear h hk1 h1 hv hx hf hm
  go_enter Try.func20, Try.ntmps20
  go_wp2_with (first
    | (at_range; refine wpList_range_own _ rfl _ 105 rfl 29 39 uKeyed Try.underlying105 heldR bm N D0 rfl hown ?_
       intro w0 hrg0 hg0 hs0)
    | fail)
  have HG0 := Lib.hid hg0
  clear hg0 hs0
  (try go_frame)
  rw [hsz] at hrg0
  go_loopw [4] (fun _ wr => ∃ (D1 : DataW Value) (f : Lit → Option Value) (left : Lit → Bool) (cnt : Nat), wr.ranges Try.prog 29 heldR bm w.heap.size N D1 left cnt ∧ MapD D1 f ∧ Goes f0 f left slot ∧ Keep (fun k => k = bm ∨ w.heap.size ≤ k) (w.setCell ⟨b0, 1, none⟩ (.int .u64 slot)) wr)
    (fun _ wr => wr.rangeLeft bm w.heap.size)
  case atStart =>
    exact ⟨D0, f0, _, _, hrg0, HM.out, Goes.start _ _ HM.out _, Keep.grown HG0.out (fun k hk => by cases hk)⟩
  case round =>
    obtain ⟨D1, f, left, cnt, hrg, hmd, hgo, hkp⟩ := hrel
    have HMd := Lib.hid hmd
    have HGo := Lib.hid hgo
    have HKp := Lib.hid hkp
    have hlt0 : b0 < (w.setCell ⟨b0, 1, none⟩ (.int .u64 slot)).heap.size := by omega
    have hnb : ¬ (b0 = bm ∨ w.heap.size ≤ b0) := by omega
    have d2 := hkp.cell (p := ⟨b0, 2, none⟩) e2 hnb
    clear hmd hgo hkp
    go_wp2_with (first
      | (at_next; refine wpList_next_ranges _ rfl _ rfl 29 uKeyed heldR (Value.int .u64) id (fun key kl hk => by obtain ⟨x, hx, _⟩ := Maps.keyOf_int_inv Try.underlying29 hk; exact ⟨x, hx⟩) (fun v _ _ => ⟨v, rfl⟩) bm w.heap.size N _ _ _ rfl hrg ?_ ?_)
      | fail)
    · intro hc0 hl0
      have HL0 := Lib.hid hl0
      clear hl0
      go_wp2_with fail
      first | go_end0 | (refine bodyPost_ret (results_none rfl _ _ _) rfl ?_)
      have hkD : Keep D w wr := (HK1.out).trans (HKp.out.mono (fun k hk hs => by
        rcases hs with e | e
        · subst e; exact H1.out.dm
        · omega))
      have h1 := H1.out
      have hnb2 : ∀ k, k = bm ∨ w.heap.size ≤ k → D k → k = b0 ∨ k = bm := fun k hs hd => by
        rcases hs with e | e
        · exact Or.inr e
        · have := h1.lt k hd; omega
      refine ⟨rfl, ⟨(HKp.out.block b0 hlt0 hnb).trans h1.cells, fun k hd => Nat.lt_of_lt_of_le (h1.lt k hd) HKp.out.size, h1.d0, h1.dm, h1.ne, ⟨⟨f, ⟨D1, hrg.owns, HMd.out⟩, fun a ha => ?_, fun kl hk => HX.out kl (HGo.out.2 kl hk)⟩, fun a v hv => ?_⟩, h1.num⟩, hkD⟩
      · rw [HGo.out.1 a ha]
        simp only
        by_cases e : a < slot
        · rw [if_pos ⟨e, HL0.out _⟩, if_pos e]; rfl
        · rw [if_neg (fun h => e h.1), if_neg e]
          exact (HV.out a ha).keep HKp.out hnb2 (fun _ h => h)
      · simp only at hv
        by_cases e : a < slot
        · rw [if_pos e] at hv; cases hv
        · rw [if_neg e] at hv; exact h1.map.small a v hv
    · intro x c kl yd yp w2 cnt2 hkey hlk hv hat hrg2 hlt hg2 hs2 hen
      obtain ⟨x', ex, rfl, _⟩ := Maps.keyOf_int_inv Try.underlying29 hkey
      obtain rfl : x = x' := by cases ex; rfl
      have hkp2 : Keep (fun k => k = bm ∨ w.heap.size ≤ k) (w.setCell ⟨b0, 1, none⟩ (.int .u64 slot)) w2 := HKp.out.trans (Keep.grown hg2 (fun k hk => Or.inr (by cases hk; exact Nat.le_refl _)))
      have HKp2 := Lib.hid hkp2
      have g2 := hkp2.cell (p := ⟨b0, 2, none⟩) e2 hnb
      have HAt := Lib.hid hat
      have HLk := Lib.hid hlk
      have HG2 := Lib.hid hg2
      clear hkp2 hat hlk hg2 hs2
      by_cases hxs : x < slot
      · go_wp2_with (first
          | (at_delete; refine wpList_delete_ranges _ rfl _ _ 105 29 rfl 39 uKeyed Try.underlying105 heldR bm w.heap.size N _ _ _ rfl hrg2 _ _ rfl hkey ?_
             intro w3 cnt3 hrg3 hle hturn
             have HT := Lib.hid hturn
             clear hturn)
          | fail)
        rw [Maps.strike_twice] at hrg3
        (try go_frame)
        go_roundw
        case rel => exact ⟨_, _, _, _, hrg3, HMd.out.del _, HGo.out.gone hxs, HKp2.out.trans (Keep.grown HT.out.grown (fun k hk => Or.inl (by cases hk; rfl)))⟩
        case measure => rw [hrg3.left_eq, hrg.left_eq]; omega
      · have hxd : decide (x < slot) = false := decide_eq_false hxs
        go_wp2_with fail
        go_roundw
        case rel => exact ⟨_, _, _, _, hrg2, HMd.out, HGo.out.stays hxs, HKp2.out⟩
        case measure => rw [hrg2.left_eq, hrg.left_eq]; omega
theorem AccO.forget {p : Value} {D : Nat → Prop} {w : World} {N : Nat} {A : AS} (h : AccO p D w N A) {slot : Int} (us : U1 slot) :
    Calls Try.prog 20 #[p, .int .u64 slot] w fun e w' => e = .returned (.tuple #[]) ∧ AccO p D w' N (forgA A slot) ∧ Keep D w w' := by
  have h0 := h
  obtain ⟨⟨b0, bm, n, rfl, h2, h3⟩, K, h4, h5⟩ := h
  unfold forgA
  by_cases hs : slot ≤ A.low
  · rw [if_pos hs]
    exact (forget_none h2 hs).mono fun e w' ⟨e1, e2⟩ => by subst e2; exact ⟨e1, h0, Keep.refl _ _⟩
  · rw [if_neg hs]
    refine (forget_some h2 us (by omega)).mono fun e w' ⟨e1, g1, g2⟩ => ⟨e1, ⟨⟨b0, bm, n, rfl, g1, h3⟩, K, h4, fun x hx => h5 x ?_⟩, g2⟩
    simp only at hx
    by_cases e : x < slot
    · rw [if_pos e] at hx; cases hx
    · rw [if_neg e] at hx; exact hx
end Go.Proofs.Ytjdjfhioobhcjaa
