/-
  Package acceptor: Accept.
-/
import Derived.Test.YtjdjfhioobhcjaaAcc
namespace Go.Proofs.Ytjdjfhioobhcjaa
open Go.ChangeShapes Go.WideShapes Go.ChangeAt Go.RowKit Go.Maps
set_option maxRecDepth 100000

/-- The object's blocks may grow; others stay. -/
structure Moved (D D' : Nat → Prop) (w w' : World) : Prop where
  keep : Keep D w w'
  sub : ∀ k, D k → D' k
  new : ∀ k, D' k → D k ∨ w.heap.size ≤ k
theorem Moved.refl (D : Nat → Prop) (w : World) : Moved D D w w := ⟨Keep.refl _ _, fun _ h => h, fun _ h => Or.inl h⟩
theorem Moved.of {D : Nat → Prop} {w w' : World} (h : Keep D w w') : Moved D D w w' := ⟨h, fun _ h => h, fun _ h => Or.inl h⟩
theorem Moved.trans {D D' D'' : Nat → Prop} {w w' w'' : World} (h : Moved D D' w w') (k : Moved D' D'' w' w'') : Moved D D'' w w'' :=
  ⟨⟨k.keep.os.trans h.keep.os, k.keep.tape.trans h.keep.tape, k.keep.output.trans h.keep.output, Nat.le_trans h.keep.size k.keep.size, fun i hi hd => (k.keep.block i (Nat.lt_of_lt_of_le hi h.keep.size) (fun hd' => by
    rcases h.new i hd' with e | e
    · exact hd e
    · omega)).trans (h.keep.block i hi hd)⟩, fun i hd => k.sub i (h.sub i hd), fun i hd => by
    rcases k.new i hd with e | e
    · exact h.new i e
    · exact Or.inr (Nat.le_trans h.keep.size e)⟩
theorem Moved.below {D D' : Nat → Prop} {w w' : World} {B : Nat} (h : Moved D D' w w') (hD : ∀ k, D k → B ≤ k) (hB : B ≤ w.heap.size) : Below B w w' ∧ ∀ k, D' k → B ≤ k :=
  ⟨h.keep.below hB hD, fun k hk => by
    rcases h.new k hk with e | e
    · exact hD k e
    · omega⟩

def putA (A : AS) (v : Vt) : AS := ⟨v.ballot, A.low, fun a => if a = v.slot then some v else A.l a⟩
def accE (A : AS) (v : Vt) : Int := if v.ballot < A.promised then 32 else if v.slot < A.low then 15 else 0
def accR (A : AS) (v : Vt) : AS := if accE A v = 0 then putA A v else A

set_option maxHeartbeats 1000000 in
theorem accept_old {D : Nat → Prop} {w : World} {b0 bm N : Nat} {A : AS} {sv : Value} {v : Vt} (h : AccR w D b0 bm N A) (hs : SlR w sv (u8s v.val)) (hb : v.ballot < A.promised) :
    Calls Try.prog 18 #[.pointer (some ⟨b0, 0, none⟩), .agg #[.int .u64 v.slot, .int .u64 v.ballot, sv]] w fun e w' => e = .returned (.int .i64 32) ∧ Below w.heap.size w w' := by
  obtain ⟨slot, ballot, xs⟩ := v
  simp only at hs hb
  obtain ⟨ao, c, rfl, _, _⟩ := hs.form
  simp only [List.length_map] at hs
  have hb1 := (Below.refl w.heap.size w).alloc (Nat.le_refl _) (.cells #[.int .u64 slot, .int .u64 ballot, .slice ao xs.length c] 39)
  obtain ⟨c0, c1, c2, _⟩ := (h.below hb1 (Nat.le_refl _)).cell
  have hd : decide (ballot < A.promised) = true := decide_eq_true hb
  have HB := Lib.hid hb1
  clear hb1 h hs hb
  go_enter Try.func18, Try.ntmps18
  go_wp2_with fail
  go_quiet (fail)
  go_wp2_with fail
  go_ret
  exact ⟨rfl, below_drewN HB.out _⟩
set_option maxHeartbeats 1000000 in
theorem accept_range {D : Nat → Prop} {w : World} {b0 bm N : Nat} {A : AS} {sv : Value} {v : Vt} (h : AccR w D b0 bm N A) (hs : SlR w sv (u8s v.val)) (hb : A.promised ≤ v.ballot) (hl : v.slot < A.low) :
    Calls Try.prog 18 #[.pointer (some ⟨b0, 0, none⟩), .agg #[.int .u64 v.slot, .int .u64 v.ballot, sv]] w fun e w' => e = .returned (.int .i64 15) ∧ Below w.heap.size w w' := by
  obtain ⟨slot, ballot, xs⟩ := v
  simp only at hs hb hl
  obtain ⟨ao, c, rfl, _, _⟩ := hs.form
  simp only [List.length_map] at hs
  have hb1 := (Below.refl w.heap.size w).alloc (Nat.le_refl _) (.cells #[.int .u64 slot, .int .u64 ballot, .slice ao xs.length c] 39)
  obtain ⟨c0, c1, c2, _⟩ := (h.below hb1 (Nat.le_refl _)).cell
  have hd : decide (ballot < A.promised) = false := decide_eq_false (by omega)
  have hd2 : decide (slot < A.low) = true := decide_eq_true hl
  have HB := Lib.hid hb1
  clear hb1 h hs hb hl
  go_enter Try.func18, Try.ntmps18
  go_wp2_with fail
  go_quiet (fail)
  go_wp2_with fail
  go_quiet (fail)
  go_wp2_with fail
  go_ret
  exact ⟨rfl, by first | exact below_drewN HB.out _ | exact below_drewN (below_drewN HB.out _) _⟩

theorem SlR.setOther {w : World} {v : Value} {cs : List Value} (h : SlR w v cs) {p : Addr} {old : Value} (hp : w.cell? p = some old) (ho : ∀ u ∈ cs, u ≠ old) (u : Value) : SlR (w.setCell p u) v cs := by
  obtain ⟨ao, c, rfl, h1, h2, hx⟩ := h
  refine ⟨ao, c, rfl, h1, h2, fun i x hi => ?_⟩
  obtain ⟨a, ha, hc⟩ := hx i x hi
  refine ⟨a, ha, (World.cell?_setCell_other _ _ _ _ ?_).trans hc⟩
  intro e
  rw [e] at hp
  rw [hp] at hc
  exact ho x (List.mem_of_getElem? hi) (by cases hc; rfl)
theorem u8s_ne {xs : List Int} {old : Value} (h : ∀ x, old ≠ .int .u8 x) : ∀ u ∈ u8s xs, u ≠ old := by
  intro u hu e
  obtain ⟨x, _, rfl⟩ := List.mem_map.1 hu
  exact h x e.symm
/-- A vote is stored. -/
theorem AccR.put {D : Nat → Prop} {w wm w2 : World} {b0 bm N B : Nat} {A : AS} {v : Vt} {sv : Value} {f : Lit → Option Value} (h : AccR w D b0 bm N A) (hB : w.heap.size ≤ B) (hb : Below w.heap.size w wm)
    (hown : wm.ownsRow B 5 1 sv v.val.length (u8s v.val)) (hm : MapR w2 Try.prog 29 bm (N + 1) (putF f (.int .u64 v.slot) (.agg #[.int .u64 v.slot, .int .u64 v.ballot, sv]))) (hg : wm.grownBy w2 (some bm))
    (hf : ∀ a : Int, U1 a → VtV w D b0 bm (f (.int .u64 a)) (A.l a)) (hx : ∀ kl, (f kl).isSome = true → ∃ a : Int, U1 a ∧ kl = .int .u64 a) (us : U1 v.slot) (ub : U1 v.ballot) (ux : U8 v.val) (lx : v.val.length ≤ 1000000) :
    AccR w2 (fun k => D k ∨ (w.heap.size ≤ k ∧ k < w2.heap.size)) b0 bm (N + 1) ⟨A.promised, A.low, fun a => if a = v.slot then some v else A.l a⟩ ∧ Keep (fun k => k = bm) w w2 := by
  have hkg : Keep (fun k => k = bm) wm w2 := Keep.grown hg (fun k hk => by cases hk; rfl)
  have hk : Keep (fun k => k = bm) w w2 := (Below.keep0 _ hb).trans hkg
  have hbm := h.lt _ h.dm
  have hb0 := h.lt _ h.d0
  have hne := h.ne
  refine ⟨⟨(hk.block b0 hb0 (fun e => hne e.symm)).trans h.cells, fun k hd => ?_, Or.inl h.d0, Or.inl h.dm, h.ne, ⟨⟨_, hm, fun a ha => ?_, fun kl hkl => ?_⟩, fun a x hx' => ?_⟩, h.num⟩, hk⟩
  · rcases hd with hd | hd
    · exact Nat.lt_of_lt_of_le (h.lt k hd) hk.size
    · exact hd.2
  · rw [putF_int]
    simp only
    by_cases e : a = v.slot
    · rw [if_pos e, if_pos e]
      refine ⟨sv, rfl, (SlR.of_own hown).keep hkg (fun k hk' hs => ?_), fun k hk' => ?_⟩
      · have := (hown.lt k hk').1
        omega
      · have h1 := hown.lt k hk'
        have := hkg.size
        exact ⟨Or.inr ⟨by omega, by omega⟩, by omega, by omega⟩
    · rw [if_neg e, if_neg e]
      exact (hf a ha).keep hk (fun k hs _ => Or.inr hs) (fun k hd => Or.inl hd)
  · unfold putF at hkl
    by_cases e : kl = .int .u64 v.slot
    · exact ⟨v.slot, us, e⟩
    · rw [if_neg e] at hkl; exact hx kl hkl
  · simp only at hx'
    by_cases e : a = v.slot
    · rw [if_pos e] at hx'; cases hx'
      subst e
      exact ⟨us, rfl, ub, ux, lx⟩
    · rw [if_neg e] at hx'; exact h.map.small a x hx'
set_option maxHeartbeats 2000000 in
theorem accept_ok {D : Nat → Prop} {w : World} {b0 bm N : Nat} {A : AS} {sv : Value} {v : Vt} (h : AccR w D b0 bm N A) (hs : SlR w sv (u8s v.val)) (hb : A.promised ≤ v.ballot) (hl : A.low ≤ v.slot) (us : U1 v.slot) (ub : U1 v.ballot) (ux : U8 v.val) (lx : v.val.length ≤ 1000000) (hN : N < 1000000) :
    Calls Try.prog 18 #[.pointer (some ⟨b0, 0, none⟩), .agg #[.int .u64 v.slot, .int .u64 v.ballot, sv]] w fun e w' => e = .returned (.int .i64 0) ∧ ∃ D', AccR w' D' b0 bm (N + 1) (putA A v) ∧ Moved D D' w w' := by
  obtain ⟨ao, c, rfl, hc1, hc2⟩ := hs.form
  simp only [List.length_map] at hs hc1 ⊢
  have hb1 := (Below.refl w.heap.size w).alloc (Nat.le_refl _) (.cells #[.int .u64 v.slot, .int .u64 v.ballot, .slice ao v.val.length c] 39)
  have h1 := (h.below hb1 (Nat.le_refl _))
  obtain ⟨c0, c1, c2, z0, z1⟩ := h1.cell
  have hd : decide (v.ballot < A.promised) = false := decide_eq_false (by omega)
  have hd2 : decide (v.slot < A.low) = false := decide_eq_false (by omega)
  have hb0 := h.lt _ h.d0
  have hbm := h.lt _ h.dm
  have hW : ∀ n : Nat, ∃ W1, W1 = ((w.alloc (.cells #[.int .u64 v.slot, .int .u64 v.ballot, .slice ao v.val.length c] 39)).drewN n).setCell ⟨b0, 0, none⟩ (.int .u64 v.ballot) ∧ AccR W1 D b0 bm N ⟨v.ballot, A.low, A.l⟩ ∧ Keep (fun k => k = b0) w W1 ∧ W1.heap.size = w.heap.size + 1 ∧
      W1.heap[w.heap.size]? = some (.cells #[.int .u64 v.slot, .int .u64 v.ballot, .slice ao v.val.length c] 39 (0, 0)) ∧ SlR W1 (.slice ao v.val.length c) (u8s v.val) := by
    intro n
    have hbn := below_drewN hb1 n
    have hRn := h.below hbn (Nat.le_refl _)
    have hk1 : Keep (fun k => k = b0) w (((w.alloc (.cells #[.int .u64 v.slot, .int .u64 v.ballot, .slice ao v.val.length c] 39)).drewN n).setCell ⟨b0, 0, none⟩ (.int .u64 v.ballot)) := Keep.setCell (S := fun k => k = b0) (Below.keep0 _ hbn) (p := ⟨b0, 0, none⟩) (Or.inl rfl) _
    refine ⟨_, rfl, hRn.setP ub, hk1, by simp [World.setCell], ?_, ?_⟩
    · exact (Below.heap_setCell _ _ _ _ (by show w.heap.size ≠ b0; omega)).trans (heap_alloc_new w _)
    · refine SlR.setOther (hs.below hbn (Nat.le_refl _)) (p := ⟨b0, 0, none⟩) (old := .int .u64 A.promised) hRn.cell.1 (u8s_ne (fun x e => by cases e)) _
  have HW := Lib.hid hW
  clear hb1 h hs hb hl h1 hW
  go_enter Try.func18, Try.ntmps18
  go_wp2_with fail
  go_quiet (fail)
  go_wp2_with fail
  go_quiet (fail)
  go_wp2_with fail
  obtain ⟨W1, hW1, h1, hk1, hsz, hblk, hsl⟩ := HW.out _
  rw [← hW1]
  clear hW1 HW c0 c1 c2 z0 z1 hd hd2
  obtain ⟨f, hf, hvals, hvx⟩ := h1.map.vals
  have hb0' := h1.lt _ h1.d0
  have hcT : ∀ wm : World, Below W1.heap.size W1 wm → (wm.cell? ⟨b0, 2, none⟩ = some (.map (some bm)) ∧ wm.cell? ⟨w.heap.size, 0, none⟩ = some (.int .u64 v.slot) ∧ wm.cell? ⟨w.heap.size, 1, none⟩ = some (.int .u64 v.ballot) ∧ wm.cell? ⟨w.heap.size, 2, none⟩ = some (.slice ao v.val.length c)) := by
    intro wm hbx
    have hbl := (hbx.block w.heap.size (by omega)).trans hblk
    exact ⟨(hbx.cell (p := ⟨b0, 2, none⟩) hb0').trans h1.cell.2.2.1, World.news_of_block hbl 0 _ rfl, World.news_of_block hbl 1 _ rfl, World.news_of_block hbl 2 _ rfl⟩
  have hstep : ∀ wm : World, Below W1.drew.heap.size W1.drew wm → ∀ vm, ∃ w2, (Instr.mapUpdate 105 (.map (some bm)) (.int .u64 v.slot) vm).run Try.prog wm = .ok () w2 ∧ MapR w2 Try.prog 29 bm (N + 1) (putF f (.int .u64 v.slot) vm) ∧ wm.grownBy w2 (some bm) ∧
      (w2.cell? ⟨b0, 2, none⟩ = some (.map (some bm)) ∧ w2.cell? ⟨w.heap.size, 0, none⟩ = some (.int .u64 v.slot) ∧ w2.cell? ⟨w.heap.size, 1, none⟩ = some (.int .u64 v.ballot) ∧ w2.cell? ⟨w.heap.size, 2, none⟩ = some (.slice ao v.val.length c)) := by
    intro wm hbx vm
    have hbx' : Below W1.heap.size W1 wm := (Below.refl _ W1).drew.trans hbx
    obtain ⟨w2, g1, g2, g3⟩ := (hf.same (hbx'.block bm hf.lt)).store uKeyed Try.underlying105 (by unfold maxLen; omega) (u_key us) (val := vm) (by trivial)
    have hc := hcT wm hbx'
    have hne := h1.ne
    have hbmw : bm < w.heap.size := hbm
    exact ⟨w2, g1, g2, g3, g3.cell hc.1 (by simp; omega), g3.cell hc.2.1 (by simp; omega), g3.cell hc.2.2.1 (by simp; omega), g3.cell hc.2.2.2 (by simp; omega)⟩
  have hcS := hcT W1.drew (Below.refl _ W1).drew
  have HCp := Lib.hid (copied_any (hsl.below (Below.refl _ W1).drew (Nat.le_refl _)) (by omega : v.val.length ≤ 1000000000))
  have HT := Lib.hid hcT
  have HStep := Lib.hid hstep
  have H1 := Lib.hid h1
  have HK1 := Lib.hid hk1
  have HF := Lib.hid hvals
  have HX := Lib.hid hvx
  clear hcT hstep h1 hk1 hvals hvx hf hblk hsl
  go_region_held3 (fun w' => w'.cell? ⟨b0, 2, none⟩ = some (.map (some bm)) ∧ w'.cell? ⟨w.heap.size, 0, none⟩ = some (.int .u64 v.slot) ∧ w'.cell? ⟨w.heap.size, 1, none⟩ = some (.int .u64 v.ballot) ∧ w'.cell? ⟨w.heap.size, 2, none⟩ = some (.slice ao v.val.length c)) (first | go_keep | exact hcS | exact hcB | exact hcC)
    (first
      | (go_at_call 54
         refine HCp.out.mono ?_
         rintro e wm ⟨ko, kc, rfl, hown, hbx⟩
         have hcB := HT.out wm ((Below.refl _ W1).drew.trans hbx)
         obtain ⟨w2, hrun, hm2, hg2, hcC⟩ := HStep.out wm hbx (.agg #[.int .u64 v.slot, .int .u64 v.ballot, .slice ko v.val.length kc])
         have hown := Lib.hid hown
         have hm2 := Lib.hid hm2
         have hg2 := Lib.hid hg2
         have hbx := Lib.hid hbx))
  go_wp2_with fail
  go_ret
  obtain ⟨hA, hkA⟩ := AccR.put H1.out (Nat.le_refl _) ((Below.refl _ W1).drew.trans hbx.out) hown.out hm2.out hg2.out HF.out HX.out us ub ux lx
  refine ⟨rfl, _, hA, ⟨?_, fun k hk => Or.inl hk, fun k hk => ?_⟩⟩
  · exact (HK1.out.mono (fun k _ e => by subst e; exact H1.out.d0)).trans (hkA.mono (fun k _ e => by subst e; exact H1.out.dm))
  · rcases hk with hk | hk
    · exact Or.inl hk
    · exact Or.inr (by omega)
end Go.Proofs.Ytjdjfhioobhcjaa
