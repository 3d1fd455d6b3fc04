/-
  Contracts of package learner: Learn.
-/
import Derived.Test.YtfkganccglmmlaaLrn
namespace Go.Proofs.Ytfkganccglmmlaa
open Go.ChangeShapes Go.WideShapes Go.ChangeAt Go.RowKit Go.Maps

theorem Try.byteInfo : (Try.prog.info? 5).map (fun i => (i.zero, i.size, i.bytes)) = some (some (.int .u8 0), 1, 1) := by kernel_rfl
theorem zeroBytes (w : World) : (zeroValue 28).run Try.prog w = .ok (.slice none 0 0) w := by kernel_rfl
theorem slotKey : Keyed Try.prog 29 := int_keyed Try.underlying29
theorem slot_key {slot : Int} (h0 : 0 ≤ slot) (h1 : slot ≤ 18446744073709551615) : keyOf Try.prog 29 (.int .u64 slot) = some (.int .u64 slot) :=
  keyOf_int_mk Try.underlying29 (by simp [Lit.wf, IntKind.min, IntKind.max, IntKind.signed, IntKind.bits]; omega)

/-- The value that stands in the map's cell, or nil. -/
def lookV (fv : Option Value) : Value := fv.getD (.slice none 0 0)
theorem look_two {w : World} {bm n : Nat} {f : Lit → Option Value} {slot : Int} (h : MapR w Try.prog 29 bm n f) (h0 : 0 ≤ slot) (h1 : slot ≤ 18446744073709551615) :
    (Instr.lookup 51 (.map (some bm)) (.int .u64 slot) true).run Try.prog w = .ok (.tuple #[lookV (f (.int .u64 slot)), .bool (f (.int .u64 slot)).isSome]) w :=
  h.look_ok slotKey Try.underlying51 (zeroBytes w) (slot_key h0 h1)
theorem look_one {w : World} {bm n : Nat} {f : Lit → Option Value} {slot : Int} (h : MapR w Try.prog 29 bm n f) (h0 : 0 ≤ slot) (h1 : slot ≤ 18446744073709551615) :
    (Instr.lookup 51 (.map (some bm)) (.int .u64 slot) false).run Try.prog w = .ok (lookV (f (.int .u64 slot))) w :=
  h.look slotKey Try.underlying51 (zeroBytes w) (slot_key h0 h1)

set_option maxHeartbeats 400000 in
theorem learn_nil (slot : Int) (v : Value) (w : World) : Calls Try.prog 9 #[.pointer none, .int .u64 slot, v] w fun e w' => e = .returned (.int .i64 1) ∧ w = w' := by
  go_enter Try.func9, Try.ntmps9
  go_wp2
  go_ret
  exact ⟨rfl, rfl⟩
set_option maxHeartbeats 400000 in
theorem learn_worn (b0 : Nat) (v : Value) (w : World) : Calls Try.prog 9 #[.pointer (some ⟨b0, 0, none⟩), .int .u64 18446744073709551615, v] w fun e w' => e = .returned (.int .i64 37) ∧ w = w' := by
  go_enter Try.func9, Try.ntmps9
  go_wp2
  go_ret
  exact ⟨rfl, rfl⟩

set_option maxHeartbeats 800000 in
theorem learn_known {w : World} {b0 bm n : Nat} {m : Kn} {next top slot : Int} {v : Value} {xs ys : List Int} (h : LearnerR w b0 bm n m next top) (hv : SlR w v (u8s xs)) (ux : U8 xs)
    (h0 : 0 ≤ slot) (h1 : slot < 18446744073709551615) (hk : m slot = some ys) :
    Calls Try.prog 9 #[.pointer (some ⟨b0, 0, none⟩), .int .u64 slot, v] w fun e w' => e = .returned (.int .i64 (if ys = xs then 31 else 33)) ∧ w = w' := by
  obtain ⟨c0, c1, c2, z1, z2⟩ := h.cells.cell0
  obtain ⟨hne, ⟨f, hf, hvals⟩, hsm⟩ := h.map
  have hl := look_two hf h0 (by omega : slot ≤ 18446744073709551615)
  have hval := hvals slot h0 (by omega)
  rw [hk] at hval
  obtain ⟨a, c, e1, e2, e3, e4⟩ := hval
  rw [e1] at hl
  have hEq := Lib.hid (equal_any e2 hv (hsm _ _ hk).1 ux)
  have hne2 : (slot == 18446744073709551615) = false := by rw [beq_eq_false_iff_ne]; omega
  simp only [lookV, Option.getD_some, Option.isSome_some] at hl
  clear hvals hsm e1 e2 hf h hv
  by_cases hxy : ys = xs
  · have hb : (ys == xs) = true := by simpa using hxy
    rw [hb] at hEq
    rw [if_pos hxy]
    clear hxy hb hk
    go_enter Try.func9, Try.ntmps9
    go_wp2_with (go_at_call 21; refine hEq.out.mono ?_; rintro e w' ⟨rfl, rfl⟩)
    go_ret
    exact ⟨rfl, rfl⟩
  · have hb : (ys == xs) = false := by simpa using hxy
    rw [hb] at hEq
    rw [if_neg hxy]
    clear hxy hb hk
    go_enter Try.func9, Try.ntmps9
    go_wp2_with (go_at_call 21; refine hEq.out.mono ?_; rintro e w' ⟨rfl, rfl⟩)
    go_ret
    exact ⟨rfl, rfl⟩

/-- Behind a value that was new. -/
def LearnNew (b0 bm n : Nat) (m : Kn) (slot : Int) (xs : List Int) (w : World) (e : Ending) (w' : World) : Prop :=
  e = .returned (.int .i64 0) ∧ (∃ next top, LearnerR w' b0 bm (n + 1) (putK m slot xs) next top) ∧ Keep (LS b0 bm) w w'

def nextOf (b0 : Nat) (w : World) : Int := match w.cell? ⟨b0, 1, none⟩ with | some (.int _ n) => n | _ => 0

theorem nextOf_of {b0 bm : Nat} {w : World} {next top : Int} (h : LCells b0 bm w next top) : nextOf b0 w = next := by
  have := h.cell0.2.1
  simp [nextOf, this]
theorem LCells.setTop {b0 bm : Nat} {w : World} {next top : Int} (h : LCells b0 bm w next top) (t : Int) : LCells b0 bm (w.setCell ⟨b0, 2, none⟩ (.int .u64 t)) next t := by
  unfold LCells at *
  rw [heap_setCell_same w b0 2 _ _ _ h]; rfl
theorem LCells.setNext {b0 bm : Nat} {w : World} {next top : Int} (h : LCells b0 bm w next top) (t : Int) : LCells b0 bm (w.setCell ⟨b0, 1, none⟩ (.int .u64 t)) t top := by
  unfold LCells at *
  rw [heap_setCell_same w b0 1 _ _ _ h]; rfl
theorem LMap.put {w w' : World} {b0 bm n : Nat} {m : Kn} {f : Lit → Option Value} {slot : Int} {xs : List Int} {a : Addr} {c : Nat} (hne : bm ≠ b0)
    (hv : ∀ a : Int, 0 ≤ a → a ≤ 18446744073709551615 → LVal w b0 bm (f (.int .u64 a)) (m a)) (hs : ∀ a xs, m a = some xs → U8 xs ∧ xs.length ≤ 1048576)
    (hm : MapR w' Try.prog 29 bm (n + 1) (putF f (.int .u64 slot) (.slice (some a) xs.length c))) (hk : Keep (LS b0 bm) w w') (hsl : SlR w' (.slice (some a) xs.length c) (u8s xs)) (ha : a.block ≠ b0 ∧ a.block ≠ bm) (ux : U8 xs) (lx : xs.length ≤ 1048576) :
    LMap w' b0 bm (n + 1) (putK m slot xs) := by
  refine ⟨hne, ⟨_, hm, fun j h0 h1 => ?_⟩, fun j ys hj => ?_⟩
  · rw [putF_int]
    by_cases e : j = slot
    · subst e; rw [if_pos rfl, putK_self]; exact ⟨a, c, rfl, hsl, ha.1, ha.2⟩
    · rw [if_neg e, putK_ne _ _ _ _ e]; exact (hv j h0 h1).keep hk (fun k hs => hs)
  · by_cases e : j = slot
    · subst e; rw [putK_self] at hj; cases hj; exact ⟨ux, lx⟩
    · rw [putK_ne _ _ _ _ e] at hj; exact hs j ys hj

set_option maxHeartbeats 1600000 in
theorem learn_new {w : World} {b0 bm n : Nat} {m : Kn} {next top slot : Int} {v : Value} {xs : List Int} (h : LearnerR w b0 bm n m next top) (hv : SlR w v (u8s xs)) (ux : U8 xs) (lx : xs.length ≤ 1048576)
    (h0 : 0 ≤ slot) (h1 : slot < 18446744073709551615) (hn : n < 1000000) (hk : m slot = none) :
    Calls Try.prog 9 #[.pointer (some ⟨b0, 0, none⟩), .int .u64 slot, v] w (LearnNew b0 bm n m slot xs w) := by
  have H := Lib.hid h
  obtain ⟨c0, c1, c2, z1, z2⟩ := h.cells.cell0
  obtain ⟨hne, ⟨f, hf, hvals⟩, hsm⟩ := h.map
  have hl := look_two hf h0 (by omega : slot ≤ 18446744073709551615)
  have hval := hvals slot h0 (by omega)
  rw [hk] at hval
  simp only [LVal] at hval
  rw [hval] at hl
  simp only [lookV, Option.getD_none, Option.isSome_none] at hl
  have hne2 : (slot == 18446744073709551615) = false := by rw [beq_eq_false_iff_ne]; omega
  have hb0 : b0 < w.heap.size := by have := h.cells; unfold LCells at this; exact (Array.getElem?_eq_some_iff.1 this).1
  obtain ⟨i0, hi, hz0, hz1, hz2⟩ := info_parts Try.byteInfo
  have HV := Lib.hid hv
  have HM := Lib.hid hf
  have hlen : (u8s xs).length ≤ 1048576 := by simpa using lx
  have HVals := Lib.hid hvals
  have HK := Lib.hid hk
  have Hsm := Lib.hid hsm
  obtain ⟨cs, hcs⟩ : ∃ cs, cs = u8s xs := ⟨_, rfl⟩
  have hone := u8s_one xs
  rw [← hcs] at HV hlen hone
  have HCs := Lib.hid hcs
  have HOne := Lib.hid hone
  clear hvals hsm hf h hv hk hval hcs hone
  go_enter Try.func9, Try.ntmps9
  go_wp2_with fail
  have hownE : (w.alloc (.cells #[] 5)).drew.ownsRow w.heap.size 5 1 (.slice (some ⟨w.heap.size, 0, none⟩) 0 0) 0 [] := World.ownsRow.drew (World.ownsRow_made w #[] 0 (Nat.le_refl _) (by decide) rfl)
  have hbE : Below w.heap.size w (w.alloc (.cells #[] 5)).drew := ((Below.refl _ _).alloc (Nat.le_refl _) _).drew
  have HOwnE := Lib.hid hownE
  have HBE := Lib.hid hbE
  have HSrc := Lib.hid (HV.out.below hbE (Nat.le_refl _))
  have hbm := HM.out.lt
  clear hownE hbE
  go_region_held3 (fun w' => w'.cell? ⟨b0, 0, none⟩ = some (.map (some bm))) (first | go_keep | exact hcA | exact hcB)
    (first
      | (refine step_appSrc rfl (.tmp 31) (.tmp 32) 28 rfl w.heap.size 5 i0 (.int .u8 0) 1 Try.underlying28 hi hz0 hz1 hz2 rfl (by omega) rfl rfl HOwnE.out HSrc.out HOne.out (by omega) (by simp) ?_
         intro v' w1 hown hb1 _ _ hnn
         have hb1' := HBE.out.trans hb1
         have hm1 := HM.out.same (hb1'.block bm hbm)
         obtain ⟨w2, hrun, hm2, hg2⟩ := hm1.store slotKey Try.underlying51 (by unfold maxLen; omega) (val := v') (slot_key h0 (by omega)) (by trivial)
         have hcA : w1.cell? ⟨b0, 0, none⟩ = some (.map (some bm)) := (hb1'.cell (p := ⟨b0, 0, none⟩) hb0).trans c0
         have hcB : w2.cell? ⟨b0, 0, none⟩ = some (.map (some bm)) := hg2.cell hcA (by simp; omega)
         have hown := Lib.hid hown
         have hm2 := Lib.hid hm2
         have hg2 := Lib.hid hg2
         have hb1' := Lib.hid hb1'
         have hnn := Lib.hid (hnn (show (Value.slice (some ⟨w.heap.size, 0, none⟩) 0 0) ≠ .slice none 0 0 by simp))
         clear hm1 hb1)
      | fail)
  have hcells1 : LCells b0 bm w1 next top := (hb1'.out.block b0 hb0).trans H.out.cells
  have hcells2 : LCells b0 bm w2 next top := (hg2.out.block b0 (by have := hb1'.out.size; omega) (by simp; omega)).trans hcells1
  obtain ⟨d0, d1, d2, y1, y2⟩ := hcells2.cell0
  have hk2 : Keep (LS b0 bm) w w2 := (Below.keep0 _ hb1'.out).trans (Keep.grown hg2.out (fun k hk => Or.inr (by cases hk; rfl)))
  obtain ⟨g, cap, hv', hge, _⟩ := own_some hown.out hnn.out
  subst hv'
  have hlm : LMap w2 b0 bm (n + 1) (putK m slot xs) := by
    have h1 := hown.out
    rw [HCs.out] at h1
    have e : 0 + (u8s xs).length = xs.length := by simp
    rw [e] at h1
    have h2 := hm2.out
    rw [HCs.out, e] at h2
    refine LMap.put hne HVals.out Hsm.out h2 hk2 ?_ ⟨by show g ≠ b0; omega, by show g ≠ bm; omega⟩ ux lx
    have h3 := SlR.of_own h1
    rw [List.nil_append] at h3
    exact h3.keep (S := fun k => k = bm) (Keep.grown hg2.out (fun k hk => by cases hk; rfl)) (fun k hk hs => by simp [Value.ownBlock] at hk; omega)
  have htop : IsTop (putK m slot xs) (max top (slot + 1)) := H.out.top.put h0 h1
  obtain ⟨T, hT⟩ : ∃ T, T = max top (slot + 1) := ⟨_, rfl⟩
  rw [← hT] at htop
  have hTm : T ≤ 18446744073709551615 := htop.2.1
  have hT0 : 0 ≤ T := htop.1
  have hnx : ∀ j, 0 ≤ j → j < next → putK m slot xs j ≠ none := fun j h0 h1 => by
    by_cases e : j = slot
    · subst e; rw [putK_self]; simp
    · rw [putK_ne _ _ _ _ e]; exact H.out.next.2.1 j h0 h1
  have hn0 := H.out.next.1
  have hcells3 := Lib.hid (hcells2.setTop T)
  have hk3 : Keep (LS b0 bm) w (w2.setCell ⟨b0, 2, none⟩ (.int .u64 T)) := hk2.setCell (Or.inl (Or.inl rfl)) _
  have hlm3 : LMap (w2.setCell ⟨b0, 2, none⟩ (.int .u64 T)) b0 bm (n + 1) (putK m slot xs) := hlm.same (S := fun k => k = b0) ((Keep.refl (fun k => k = b0) w2).setCell (p := ⟨b0, 2, none⟩) (Or.inl rfl) _) (fun k h => h)
  have Hk3 := Lib.hid hk3
  have Hlm3 := Lib.hid hlm3
  have Htop := Lib.hid htop
  have Hnx := Lib.hid hnx
  have hTc : (top ≤ slot ∧ T = slot + 1) ∨ (slot + 1 ≤ top ∧ T = top) := by omega
  clear hk2 hlm hcells1 hcells2 htop hnx hk3 hlm3 hT
  obtain ⟨m', hme⟩ : ∃ m', m' = putK m slot xs := ⟨_, rfl⟩
  rw [← hme] at Hlm3 Htop Hnx
  have HMe := Lib.hid hme
  clear hme
  have hT0' := hT0
  rcases hTc with ⟨hc1, hTe⟩ | ⟨hc1, hTe⟩
  · subst hTe
    go_wp2
    generalize slot + 1 = T at *
    generalize w2.setCell ⟨b0, 2, none⟩ (.int .u64 T) = w3 at *
    clear hT0' hc1 c0 c1 c2 z1 z2 d0 d1 d2 y1 y2 hl hcA hcB hrun hne2 H HV HVals HK Hsm HOne HOwnE HBE HSrc hown hm2 hg2 hb1' hnn HM HCs hi hz0 hz1 hz2
    go_loopw [] (fun wr => ∃ nx : Int, LCells b0 bm wr nx T ∧ 0 ≤ nx ∧ (∀ j, 0 ≤ j → j < nx → m' j ≠ none) ∧ Keep (fun k => k = b0) w3 wr) (fun wr => (T - nextOf b0 wr).toNat)
    case atStart => exact ⟨next, hcells3.out, hn0, Hnx.out, Keep.refl _ _⟩
    case round =>
      obtain ⟨nx, hc, hx0, hxs, hkp⟩ := hrel
      obtain ⟨d0, d1, d2, y1, y2⟩ := hc.cell0
      have hxT : nx ≤ T := by
        rcases Int.lt_or_le T nx with h1 | h1
        · have := (Htop.out.2.2.1 T (hxs T hT0 h1)).2; omega
        · exact h1
      have hlr := Hlm3.out.same hkp (fun k h => h)
      obtain ⟨_, ⟨f', hf', hv'⟩, _⟩ := hlr
      have hval := hv' nx hx0 (by omega)
      have hlook : ∀ q : Nat, (Instr.lookup 51 (.map (some bm)) (.int .u64 nx) false).run Try.prog (wr.drewN q) = .ok (lookV (f' (.int .u64 nx))) (wr.drewN q) := fun q => look_one (hf'.same rfl) hx0 (by omega)
      have HC := Lib.hid hc
      have HXS := Lib.hid hxs
      have HKP := Lib.hid hkp
      have HLR := Lib.hid (Hlm3.out.same hkp (fun k h => h))
      have hnil := fun (w : World) (a : Option Addr) (n c : Nat) => run_neq_slice_nil_any (P := Try.prog) w 28 5 a n c 0 0 Try.underlying28
      have hno : nextOf b0 wr = nx := by simp [nextOf, d1]
      cases hm' : m' nx with
      | none =>
        rw [hm'] at hval
        simp only [LVal] at hval
        rw [hval] at hlook
        have HN := Lib.hid hm'
        simp only [lookV, Option.getD_none] at hlook
        clear hv' hf' hval hc hxs hkp hm' hno
        go_wp2
        go_quiet (fail)
        go_wp2
        go_ret
        refine ⟨rfl, ?_, ?_⟩
        · rw [← HMe.out]
          exact ⟨nx, T, ⟨HC.out, HLR.out.same (S := fun k => k = b0) ((Keep.refl _ _).drewN _) (fun k h => h), ⟨hx0, HXS.out, HN.out⟩, Htop.out⟩⟩
        · exact (Hk3.out.trans (HKP.out.mono (fun k _ h => Or.inl h))).drewN _
      | some ys =>
        rw [hm'] at hval
        obtain ⟨ad, cd, e1, _, _, _⟩ := hval
        rw [e1] at hlook
        simp only [lookV, Option.getD_some] at hlook
        have hlt : nx < T := (Htop.out.2.2.1 nx (by rw [hm']; simp)).2
        have HS := Lib.hid hm'
        have hcs := Lib.hid (hc.setNext (nx + 1))
        have hcd : ∀ q : Nat, LCells b0 bm ((wr.drewN q).setCell ⟨b0, 1, none⟩ (.int .u64 (nx + 1))) (nx + 1) T := fun q => hcs.out
        have hcd := Lib.hid hcd
        clear hv' hf' hc hxs hkp hm' hno e1
        go_wp2
        go_quiet (fail)
        go_wp2
        go_roundw
        case rel => exact ⟨nx + 1, hcs.out, by omega, fun j h0 h1 => by
          by_cases e : j = nx
          · subst e; rw [HS.out]; simp
          · exact HXS.out j h0 (by omega), (HKP.out.setCell (p := ⟨b0, 1, none⟩) (Or.inl rfl) _).drewN _⟩
        case measure => rw [nextOf_of (hcd.out _), nextOf_of HC.out]; omega
  · subst hTe
    go_wp2
    generalize w2.setCell ⟨b0, 2, none⟩ (.int .u64 T) = w3 at *
    clear hT0' hc1 c0 c1 c2 z1 z2 d0 d1 d2 y1 y2 hl hcA hcB hrun hne2 H HV HVals HK Hsm HOne HOwnE HBE HSrc hown hm2 hg2 hb1' hnn HM HCs hi hz0 hz1 hz2
    go_loopw [] (fun wr => ∃ nx : Int, LCells b0 bm wr nx T ∧ 0 ≤ nx ∧ (∀ j, 0 ≤ j → j < nx → m' j ≠ none) ∧ Keep (fun k => k = b0) w3 wr) (fun wr => (T - nextOf b0 wr).toNat)
    case atStart => exact ⟨next, hcells3.out, hn0, Hnx.out, Keep.refl _ _⟩
    case round =>
      obtain ⟨nx, hc, hx0, hxs, hkp⟩ := hrel
      obtain ⟨d0, d1, d2, y1, y2⟩ := hc.cell0
      have hxT : nx ≤ T := by
        rcases Int.lt_or_le T nx with h1 | h1
        · have := (Htop.out.2.2.1 T (hxs T hT0 h1)).2; omega
        · exact h1
      have hlr := Hlm3.out.same hkp (fun k h => h)
      obtain ⟨_, ⟨f', hf', hv'⟩, _⟩ := hlr
      have hval := hv' nx hx0 (by omega)
      have hlook : ∀ q : Nat, (Instr.lookup 51 (.map (some bm)) (.int .u64 nx) false).run Try.prog (wr.drewN q) = .ok (lookV (f' (.int .u64 nx))) (wr.drewN q) := fun q => look_one (hf'.same rfl) hx0 (by omega)
      have HC := Lib.hid hc
      have HXS := Lib.hid hxs
      have HKP := Lib.hid hkp
      have HLR := Lib.hid (Hlm3.out.same hkp (fun k h => h))
      have hnil := fun (w : World) (a : Option Addr) (n c : Nat) => run_neq_slice_nil_any (P := Try.prog) w 28 5 a n c 0 0 Try.underlying28
      have hno : nextOf b0 wr = nx := by simp [nextOf, d1]
      cases hm' : m' nx with
      | none =>
        rw [hm'] at hval
        simp only [LVal] at hval
        rw [hval] at hlook
        have HN := Lib.hid hm'
        simp only [lookV, Option.getD_none] at hlook
        clear hv' hf' hval hc hxs hkp hm' hno
        go_wp2
        go_quiet (fail)
        go_wp2
        go_ret
        refine ⟨rfl, ?_, ?_⟩
        · rw [← HMe.out]
          exact ⟨nx, T, ⟨HC.out, HLR.out.same (S := fun k => k = b0) ((Keep.refl _ _).drewN _) (fun k h => h), ⟨hx0, HXS.out, HN.out⟩, Htop.out⟩⟩
        · exact (Hk3.out.trans (HKP.out.mono (fun k _ h => Or.inl h))).drewN _
      | some ys =>
        rw [hm'] at hval
        obtain ⟨ad, cd, e1, _, _, _⟩ := hval
        rw [e1] at hlook
        simp only [lookV, Option.getD_some] at hlook
        have hlt : nx < T := (Htop.out.2.2.1 nx (by rw [hm']; simp)).2
        have HS := Lib.hid hm'
        have hcs := Lib.hid (hc.setNext (nx + 1))
        have hcd : ∀ q : Nat, LCells b0 bm ((wr.drewN q).setCell ⟨b0, 1, none⟩ (.int .u64 (nx + 1))) (nx + 1) T := fun q => hcs.out
        have hcd := Lib.hid hcd
        clear hv' hf' hc hxs hkp hm' hno e1
        go_wp2
        go_quiet (fail)
        go_wp2
        go_roundw
        case rel => exact ⟨nx + 1, hcs.out, by omega, fun j h0 h1 => by
          by_cases e : j = nx
          · subst e; rw [HS.out]; simp
          · exact HXS.out j h0 (by omega), (HKP.out.setCell (p := ⟨b0, 1, none⟩) (Or.inl rfl) _).drewN _⟩
        case measure => rw [nextOf_of (hcd.out _), nextOf_of HC.out]; omega
end Go.Proofs.Ytfkganccglmmlaa
