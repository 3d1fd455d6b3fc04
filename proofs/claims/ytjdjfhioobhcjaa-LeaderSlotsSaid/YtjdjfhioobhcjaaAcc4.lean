/-
  Package acceptor: Forget.
-/
import Derived.Test.YtjdjfhioobhcjaaAcc3
import Derived.Maps.RangeWalk
namespace Go.Proofs.Ytjdjfhioobhcjaa
open Go.ChangeShapes Go.WideShapes Go.ChangeAt Go.RowKit Go.Maps
set_option maxRecDepth 100000

def forgA (A : AS) (slot : Int) : AS := if slot ≤ A.low then A else ⟨A.promised, slot, fun a => if a < slot then none else A.l a⟩
theorem forget_none {D : Nat → Prop} {w : World} {b0 bm N : Nat} {A : AS} (h : AccR w D b0 bm N A) {slot : Int} (hs : slot ≤ A.low) :
    Calls Try.prog 20 #[.pointer (some ⟨b0, 0, none⟩), .int .u64 slot] w fun e w' => e = .returned (.tuple #[]) ∧ w = w' := by
  obtain ⟨c0, c1, c2, _⟩ := h.cell
  have hd : decide (slot ≤ A.low) = true := decide_eq_true hs
  clear h hs
  go_enter Try.func20, Try.ntmps20
  go_wp2_with fail
  first | (refine bodyPost_ret (results_none rfl _ _ _) rfl ?_) | go_end0
  exact ⟨rfl, rfl⟩
/-- What a map reads as, by a function. -/
def MapD (D : DataW Value) (f : Lit → Option Value) : Prop := IsMap D ∧ ∀ kl, (has D kl = (f kl).isSome) ∧ ∀ v, f kl = some v → ∀ z, D.atKey kl z = .held v
theorem MapD.del {D : DataW Value} {f : Lit → Option Value} (h : MapD D f) (kl : Lit) : MapD (D.del kl) (delF f kl) := by
  refine ⟨h.1.del _, fun x => ?_⟩
  unfold delF
  by_cases hx : x = kl
  · subst hx
    rw [if_pos rfl]
    exact ⟨has_del_same, fun v hv => by cases hv⟩
  · rw [if_neg hx]
    exact ⟨by rw [has_del_other hx]; exact (h.2 x).1, fun v hv z => by rw [atKey_del_other hx]; exact (h.2 x).2 v hv z⟩
/-- What is left of a map while those below a slot go. -/
def Goes (f0 f : Lit → Option Value) (left : Lit → Bool) (slot : Int) : Prop := (∀ a : Int, U1 a → f (.int .u64 a) = if a < slot ∧ left (.int .u64 a) = false then none else f0 (.int .u64 a)) ∧ (∀ kl, (f kl).isSome = true → (f0 kl).isSome = true)
theorem Goes.start (f0 : Lit → Option Value) (D : DataW Value) (h : MapD D f0) (slot : Int) : Goes f0 f0 (has D) slot := by
  refine ⟨fun a _ => ?_, fun kl h => h⟩
  by_cases e : a < slot ∧ has D (.int .u64 a) = false
  · rw [if_pos e]
    have := (h.2 (.int .u64 a)).1
    rw [e.2] at this
    cases hf : f0 (.int .u64 a) with
    | none => rfl
    | some v => rw [hf] at this; cases this
  · rw [if_neg e]
theorem Goes.gone {f0 f : Lit → Option Value} {left : Lit → Bool} {slot x : Int} (h : Goes f0 f left slot) (hx : x < slot) : Goes f0 (delF f (.int .u64 x)) (fun z => left z && !z.sameKey (.int .u64 x)) slot := by
  refine ⟨fun a ha => ?_, fun kl hk => ?_⟩
  · rw [delF_int, h.1 a ha]
    by_cases e : a = x
    · subst e; simp [Lit.sameKey, hx]
    · rw [if_neg e]; simp [Lit.sameKey, e]
  · unfold delF at hk
    split at hk
    · cases hk
    · exact h.2 kl hk
theorem Goes.stays {f0 f : Lit → Option Value} {left : Lit → Bool} {slot x : Int} (h : Goes f0 f left slot) (hx : ¬ x < slot) : Goes f0 f (fun z => left z && !z.sameKey (.int .u64 x)) slot := by
  refine ⟨fun a ha => ?_, h.2⟩
  rw [h.1 a ha]
  by_cases e : a = x
  · subst e; simp [hx]
  · simp [Lit.sameKey, e]
set_option maxHeartbeats 2000000 in
theorem forget_some {D : Nat → Prop} {w : World} {b0 bm N : Nat} {A : AS} (h : AccR w D b0 bm N A) {slot : Int} (us : U1 slot) (hs : A.low < slot) :
    Calls Try.prog 20 #[.pointer (some ⟨b0, 0, none⟩), .int .u64 slot] w fun e w' => e = .returned (.tuple #[]) ∧ AccR w' D b0 bm N ⟨A.promised, slot, fun a => if a < slot then none else A.l a⟩ ∧ Keep D w w' := by
  obtain ⟨c0, c1, c2, z0, z1⟩ := h.cell
  have hd : decide (slot ≤ A.low) = false := decide_eq_false (by omega)
  have h1 := h.setL us
  have hb0 := h.lt _ h.d0
  have hsz : (w.setCell ⟨b0, 1, none⟩ (.int .u64 slot)).heap.size = w.heap.size := by simp [World.setCell]
  have hk1 : Keep D w (w.setCell ⟨b0, 1, none⟩ (.int .u64 slot)) := (Keep.refl D w).setCell (p := ⟨b0, 1, none⟩) (Or.inl h.d0) _
  obtain ⟨f0, ⟨D0, hown, hm, hf⟩, hv, hx⟩ := h1.map.vals
  have e2 := h1.cell.2.2.1
  have H1 := Lib.hid h1
  have HK1 := Lib.hid hk1
  have HV := Lib.hid hv
  have HX := Lib.hid hx
  have HM : Hid (MapD D0 f0) := Lib.hid ⟨hm, hf⟩
  have hds := h.ne
  clear h hk1 h1 hv hx hf hm
  go_enter Try.func20, Try.ntmps20
  go_wp2_with (first
    | (at_range; refine wpList_range_own _ rfl _ 105 rfl 29 39 uKeyed Try.underlying105 heldR bm N D0 rfl hown ?_
       intro w0 hrg0 hg0 hs0)
    | fail)
  have HG0 := Lib.hid hg0
  clear hg0 hs0
  (try go_frame)
  rw [hsz] at hrg0
  go_loopw [4] (fun _ wr => ∃ (D1 : DataW Value) (f : Lit → Option Value) (left : Lit → Bool) (cnt : Nat), wr.ranges Try.prog 29 heldR bm w.heap.size N D1 left cnt ∧ MapD D1 f ∧ Goes f0 f left slot ∧ Keep (fun k => k = bm ∨ w.heap.size ≤ k) (w.setCell ⟨b0, 1, none⟩ (.int .u64 slot)) wr)
    (fun _ wr => wr.rangeLeft bm w.heap.size)
  case atStart =>
    exact ⟨D0, f0, _, _, hrg0, HM.out, Goes.start _ _ HM.out _, Keep.grown HG0.out (fun k hk => by cases hk)⟩
  case round =>
    obtain ⟨D1, f, left, cnt, hrg, hmd, hgo, hkp⟩ := hrel
    have HMd := Lib.hid hmd
    have HGo := Lib.hid hgo
    have HKp := Lib.hid hkp
    have hlt0 : b0 < (w.setCell ⟨b0, 1, none⟩ (.int .u64 slot)).heap.size := by omega
    have hnb : ¬ (b0 = bm ∨ w.heap.size ≤ b0) := by omega
    have d2 := hkp.cell (p := ⟨b0, 2, none⟩) e2 hnb
    clear hmd hgo hkp
    go_wp2_with (first
      | (at_next; refine wpList_next_ranges _ rfl _ rfl 29 uKeyed heldR (Value.int .u64) id (fun key kl hk => by obtain ⟨x, hx, _⟩ := Maps.keyOf_int_inv Try.underlying29 hk; exact ⟨x, hx⟩) (fun v _ _ => ⟨v, rfl⟩) bm w.heap.size N _ _ _ rfl hrg ?_ ?_)
      | fail)
    · intro hc0 hl0
      have HL0 := Lib.hid hl0
      clear hl0
      go_wp2_with fail
      first | go_end0 | (refine bodyPost_ret (results_none rfl _ _ _) rfl ?_)
      have hkD : Keep D w wr := (HK1.out).trans (HKp.out.mono (fun k hk hs => by
        rcases hs with e | e
        · subst e; exact H1.out.dm
        · omega))
      have h1 := H1.out
      have hnb2 : ∀ k, k = bm ∨ w.heap.size ≤ k → D k → k = b0 ∨ k = bm := fun k hs hd => by
        rcases hs with e | e
        · exact Or.inr e
        · have := h1.lt k hd; omega
      refine ⟨rfl, ⟨(HKp.out.block b0 hlt0 hnb).trans h1.cells, fun k hd => Nat.lt_of_lt_of_le (h1.lt k hd) HKp.out.size, h1.d0, h1.dm, h1.ne, ⟨⟨f, ⟨D1, hrg.owns, HMd.out⟩, fun a ha => ?_, fun kl hk => HX.out kl (HGo.out.2 kl hk)⟩, fun a v hv => ?_⟩, h1.num⟩, hkD⟩
      · rw [HGo.out.1 a ha]
        simp only
        by_cases e : a < slot
        · rw [if_pos ⟨e, HL0.out _⟩, if_pos e]; rfl
        · rw [if_neg (fun h => e h.1), if_neg e]
          exact (HV.out a ha).keep HKp.out hnb2 (fun _ h => h)
      · simp only at hv
        by_cases e : a < slot
        · rw [if_pos e] at hv; cases hv
        · rw [if_neg e] at hv; exact h1.map.small a v hv
    · intro x c kl yd yp w2 cnt2 hkey hlk hv hat hrg2 hlt hg2 hs2 hen
      obtain ⟨x', ex, rfl, _⟩ := Maps.keyOf_int_inv Try.underlying29 hkey
      obtain rfl : x = x' := by cases ex; rfl
      have hkp2 : Keep (fun k => k = bm ∨ w.heap.size ≤ k) (w.setCell ⟨b0, 1, none⟩ (.int .u64 slot)) w2 := HKp.out.trans (Keep.grown hg2 (fun k hk => Or.inr (by cases hk; exact Nat.le_refl _)))
      have HKp2 := Lib.hid hkp2
      have g2 := hkp2.cell (p := ⟨b0, 2, none⟩) e2 hnb
      have HAt := Lib.hid hat
      have HLk := Lib.hid hlk
      have HG2 := Lib.hid hg2
      clear hkp2 hat hlk hg2 hs2
      by_cases hxs : x < slot
      · go_wp2_with (first
          | (at_delete; refine wpList_delete_ranges _ rfl _ _ 105 29 rfl 39 uKeyed Try.underlying105 heldR bm w.heap.size N _ _ _ rfl hrg2 _ _ rfl hkey ?_
             intro w3 cnt3 hrg3 hle hturn
             have HT := Lib.hid hturn
             clear hturn)
          | fail)
        rw [Maps.strike_twice] at hrg3
        (try go_frame)
        go_roundw
        case rel => exact ⟨_, _, _, _, hrg3, HMd.out.del _, HGo.out.gone hxs, HKp2.out.trans (Keep.grown HT.out.grown (fun k hk => Or.inl (by cases hk; rfl)))⟩
        case measure => rw [hrg3.left_eq, hrg.left_eq]; omega
      · have hxd : decide (x < slot) = false := decide_eq_false hxs
        go_wp2_with fail
        go_roundw
        case rel => exact ⟨_, _, _, _, hrg2, HMd.out, HGo.out.stays hxs, HKp2.out⟩
        case measure => rw [hrg2.left_eq, hrg.left_eq]; omega
theorem AccO.forget {p : Value} {D : Nat → Prop} {w : World} {N : Nat} {A : AS} (h : AccO p D w N A) {slot : Int} (us : U1 slot) :
    Calls Try.prog 20 #[p, .int .u64 slot] w fun e w' => e = .returned (.tuple #[]) ∧ AccO p D w' N (forgA A slot) ∧ Keep D w w' := by
  have h0 := h
  obtain ⟨⟨b0, bm, n, rfl, h2, h3⟩, K, h4, h5⟩ := h
  unfold forgA
  by_cases hs : slot ≤ A.low
  · rw [if_pos hs]
    exact (forget_none h2 hs).mono fun e w' ⟨e1, e2⟩ => by subst e2; exact ⟨e1, h0, Keep.refl _ _⟩
  · rw [if_neg hs]
    refine (forget_some h2 us (by omega)).mono fun e w' ⟨e1, g1, g2⟩ => ⟨e1, ⟨⟨b0, bm, n, rfl, g1, h3⟩, K, h4, fun x hx => h5 x ?_⟩, g2⟩
    simp only at hx
    by_cases e : x < slot
    · rw [if_pos e] at hx; cases hx
    · rw [if_neg e] at hx; exact hx
end Go.Proofs.Ytjdjfhioobhcjaa
