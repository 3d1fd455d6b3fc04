/-
  Package learner: Next, Get; a learner among other things of the call's own.
-/
import Derived.Test.YtgmdedkingampaaGreatClo
import Derived.Test.YtgmdedkingampaaGreatProg
set_option linter.unusedVariables false
set_option linter.unusedSimpArgs false
namespace Go.Proofs.YtgmdedkingampaaGreat.Ln
open Go.ChangeShapes Go.WideShapes Go.ChangeAt Go.RowKit Go.Maps
set_option maxRecDepth 100000
variable {D D' : Nat → Prop}
set_option linter.unusedVariables false
set_option linter.unusedSimpArgs false


/-- What is known: a slot's bytes. -/
abbrev Kn := Int → Option (List Int)
def IsNext (m : Kn) (next : Int) : Prop := 0 ≤ next ∧ (∀ j, 0 ≤ j → j < next → m j ≠ none) ∧ m next = none
def IsTop (m : Kn) (top : Int) : Prop := 0 ≤ top ∧ top ≤ 18446744073709551615 ∧ (∀ j, m j ≠ none → 0 ≤ j ∧ j < top) ∧ (top = 0 ∨ m (top - 1) ≠ none)
theorem IsNext.unique {m : Kn} {a b : Int} (h : IsNext m a) (k : IsNext m b) : a = b := by
  rcases Int.lt_trichotomy a b with h1 | h1 | h1
  · exact absurd h.2.2 (k.2.1 a h.1 h1)
  · exact h1
  · exact absurd k.2.2 (h.2.1 b k.1 h1)
theorem IsTop.unique {m : Kn} {a b : Int} (h : IsTop m a) (k : IsTop m b) : a = b := by
  obtain ⟨a0, a1, a2, a3⟩ := h
  obtain ⟨b0, b1, b2, b3⟩ := k
  rcases a3 with a3 | a3
  · rcases b3 with b3 | b3
    · omega
    · have := (a2 _ b3).2; omega
  · have h1 := (b2 _ a3).2
    rcases b3 with b3 | b3
    · have := (b2 _ a3).1; omega
    · have := (a2 _ b3).2; omega
theorem next_le_top {m : Kn} {a b : Int} (h : IsNext m a) (k : IsTop m b) : a ≤ b := by
  rcases Int.lt_or_le b a with h1 | h1
  · have := (k.2.2.1 b (h.2.1 b k.1 h1)).2; omega
  · exact h1
/-- One slot more. -/
def putK (m : Kn) (slot : Int) (xs : List Int) : Kn := fun j => if j = slot then some xs else m j
theorem putK_self (m : Kn) (slot : Int) (xs : List Int) : putK m slot xs slot = some xs := by simp [putK]
theorem putK_ne (m : Kn) (slot : Int) (xs : List Int) (j : Int) (h : j ≠ slot) : putK m slot xs j = m j := by simp [putK, h]
theorem IsTop.put {m : Kn} {top slot : Int} {xs : List Int} (h : IsTop m top) (h0 : 0 ≤ slot) (h1 : slot < 18446744073709551615) : IsTop (putK m slot xs) (max top (slot + 1)) := by
  obtain ⟨a0, a1, a2, a3⟩ := h
  refine ⟨by omega, by omega, fun j hj => ?_, ?_⟩
  · by_cases e : j = slot
    · subst e; omega
    · rw [putK_ne _ _ _ _ e] at hj; have := a2 j hj; omega
  · right
    by_cases e : slot + 1 ≤ top
    · rw [show max top (slot + 1) = top by omega]
      by_cases e2 : top - 1 = slot
      · rw [e2, putK_self]; simp
      · rw [putK_ne _ _ _ _ e2]
        rcases a3 with a3 | a3
        · omega
        · exact a3
    · rw [show max top (slot + 1) - 1 = slot by omega, putK_self]; simp

/-- How a slot's bytes lie. -/
def LVal (w : World) (D : Nat → Prop) (b0 bm : Nat) (fv : Option Value) : Option (List Int) → Prop
  | none => fv = none
  | some xs => ∃ a c, fv = some (.slice (some a) xs.length c) ∧ SlR w (.slice (some a) xs.length c) (u8s xs) ∧ a.block ≠ b0 ∧ a.block ≠ bm ∧ D a.block
/-- The two blocks that a learner writes. -/
def LS (b0 bm : Nat) : Nat → Prop := fun k => k = b0 ∨ k = bm
def LCells (b0 bm : Nat) (w : World) (next top : Int) : Prop := w.heap[b0]? = some (.cells #[.map (some bm), .int .u64 next, .int .u64 top] 133 (0, 0))
structure LMap (w : World) (D : Nat → Prop) (b0 bm n : Nat) (m : Kn) : Prop where
  ne : bm ≠ b0
  vals : ∃ f, MapR w Tryz.prog 39 bm n f ∧ ∀ a : Int, 0 ≤ a → a ≤ 18446744073709551615 → LVal w D b0 bm (f (.int .u64 a)) (m a)
  small : ∀ a xs, m a = some xs → U8 xs ∧ xs.length ≤ 1048576
structure LearnerR (w : World) (D : Nat → Prop) (b0 bm n : Nat) (m : Kn) (next top : Int) : Prop where
  cells : LCells b0 bm w next top
  map : LMap w D b0 bm n m
  next : IsNext m next
  top : IsTop m top
  lt : ∀ k, D k → k < w.heap.size
  d0 : D b0
  dm : D bm

theorem LVal.keep {S D' : Nat → Prop} {w w' : World} {b0 bm : Nat} {fv : Option Value} {mx : Option (List Int)} (hk : Keep S w w') (hS : ∀ k, S k → D k → k = b0 ∨ k = bm) (hD : ∀ k, D k → D' k) (h : LVal w D b0 bm fv mx) : LVal w' D' b0 bm fv mx := by
  cases mx with
  | none => exact h
  | some xs =>
    obtain ⟨a, c, h1, h2, h3, h4, h5⟩ := h
    refine ⟨a, c, h1, h2.keep hk (fun k hk' hs => ?_), h3, h4, hD _ h5⟩
    simp [Value.ownBlock] at hk'
    subst hk'
    rcases hS _ hs h5 with e | e
    · exact h3 e
    · exact h4 e
theorem LMap.same {S D' : Nat → Prop} {w w' : World} {b0 bm n : Nat} {m : Kn} (hk : Keep S w w') (hS : ∀ k, S k → D k → k = b0) (hm : D bm) (hD : ∀ k, D k → D' k) (h : LMap w D b0 bm n m) : LMap w' D' b0 bm n m := by
  obtain ⟨h1, ⟨f, hf, hv⟩, h2⟩ := h
  exact ⟨h1, ⟨f, hf.keep hk (fun hs => h1 (hS _ hs hm)), fun a ha hb => (hv a ha hb).keep hk (fun k hs hd => Or.inl (hS k hs hd)) hD⟩, h2⟩
theorem LCells.cell0 {b0 bm : Nat} {w : World} {next top : Int} (h : LCells b0 bm w next top) : w.cell? ⟨b0, 0, none⟩ = some (.map (some bm)) ∧ w.cell? ⟨b0, 1, none⟩ = some (.int .u64 next) ∧ w.cell? ⟨b0, 2, none⟩ = some (.int .u64 top) ∧
    w.frozen? ⟨b0, 1, none⟩ = false ∧ w.frozen? ⟨b0, 2, none⟩ = false := by
  unfold LCells at h
  simp [World.cell?, World.frozen?, h]
theorem LearnerR.keep {S : Nat → Prop} {w w' : World} {b0 bm n : Nat} {m : Kn} {next top : Int} (h : LearnerR w D b0 bm n m next top) (hk : Keep S w w') (hS : ∀ k, S k → ¬ D k) : LearnerR w' D b0 bm n m next top :=
  ⟨(hk.block b0 (h.lt _ h.d0) (fun hs => hS _ hs h.d0)).trans h.cells, h.map.same hk (fun k hs hd => absurd hd (hS k hs)) h.dm (fun _ h => h), h.next, h.top, fun k hd => Nat.lt_of_lt_of_le (h.lt k hd) hk.size, h.d0, h.dm⟩
theorem LearnerR.below {w w' : World} {b0 bm n : Nat} {m : Kn} {next top : Int} (h : LearnerR w D b0 bm n m next top) (hb : Below w.heap.size w w') : LearnerR w' D b0 bm n m next top :=
  h.keep (Below.keep0 (fun _ => False) hb) (fun k hk => hk.elim)

theorem new_any (w : World) : Calls Tryz.prog 63 #[] w fun e w' => e = .returned (.pointer (some ⟨w.heap.size + 1, 0, none⟩)) ∧ LearnerR w' (fun k => w.heap.size ≤ k ∧ k < w.heap.size + 2) (w.heap.size + 1) w.heap.size 0 (fun _ => none) 0 0 ∧ Below w.heap.size w w' := by
  have hmm := @run_makeMap Tryz.prog
  go_enter Tryz.func63, Tryz.ntmps63
  go_wp2
  go_ret
  have e : ((w.alloc (.map #[] 0)).heap.size) = w.heap.size + 1 := by simp
  refine ⟨by simp, ⟨?_, ⟨by omega, ⟨_, ((MapR.made w Tryz.prog 39).same (Below.heap_alloc _ _ _ (by simp))), fun a _ _ => rfl⟩, by simp⟩, ⟨by omega, by intro j h1 h2; omega, rfl⟩, ⟨by omega, by omega, by simp, Or.inl rfl⟩, fun k hk => by simp; omega, by constructor <;> omega, by constructor <;> omega⟩, ((Below.refl _ _).alloc (Nat.le_refl _) _).alloc (by simp) _⟩
  unfold LCells
  have := heap_alloc_new (w.alloc (.map #[] 0)) (.cells #[.map (some w.heap.size), .int .u64 0, .int .u64 0] 133 (0, 0))
  rw [e] at this
  exact this

theorem equal_any {va vb : Value} {a b : List Int} {w : World} (ha : SlR w va (u8s a)) (hb : SlR w vb (u8s b)) (ua : U8 a) (ub : U8 b) :
    Calls Tryz.prog 94 #[va, vb] w fun e w' => e = .returned (.bool (a == b)) ∧ w = w' := by
  have h1 := run_strB Tryz.underlying27 Tryz.underlying5 Tryz.underlying9 ha
  have h2 := run_strB Tryz.underlying27 Tryz.underlying5 Tryz.underlying9 hb
  have h3 := strB_beq ua ub
  clear ha hb
  generalize strB a = sa at *
  generalize strB b = sb at *
  go_enter Tryz.func94, Tryz.ntmps94
  go_wp2
  go_ret
  exact ⟨by first | rfl | simp [h3], rfl⟩

theorem zeroBytes (w : World) : (zeroValue 27).run Tryz.prog w = .ok (.slice none 0 0) w := by kernel_rfl
theorem slotKey : Keyed Tryz.prog 39 := int_keyed Tryz.underlying39
theorem slot_key {slot : Int} (h0 : 0 ≤ slot) (h1 : slot ≤ 18446744073709551615) : keyOf Tryz.prog 39 (.int .u64 slot) = some (.int .u64 slot) :=
  keyOf_int_mk Tryz.underlying39 (by simp [Lit.wf, IntKind.min, IntKind.max, IntKind.signed, IntKind.bits]; omega)

/-- The value that stands in the map's cell, or nil. -/
def lookV (fv : Option Value) : Value := fv.getD (.slice none 0 0)
theorem look_two {w : World} {bm n : Nat} {f : Lit → Option Value} {slot : Int} (h : MapR w Tryz.prog 39 bm n f) (h0 : 0 ≤ slot) (h1 : slot ≤ 18446744073709551615) :
    (Instr.lookup 131 (.map (some bm)) (.int .u64 slot) true).run Tryz.prog w = .ok (.tuple #[lookV (f (.int .u64 slot)), .bool (f (.int .u64 slot)).isSome]) w :=
  h.look_ok slotKey Tryz.underlying131 (zeroBytes w) (slot_key h0 h1)
theorem look_one {w : World} {bm n : Nat} {f : Lit → Option Value} {slot : Int} (h : MapR w Tryz.prog 39 bm n f) (h0 : 0 ≤ slot) (h1 : slot ≤ 18446744073709551615) :
    (Instr.lookup 131 (.map (some bm)) (.int .u64 slot) false).run Tryz.prog w = .ok (lookV (f (.int .u64 slot))) w :=
  h.look slotKey Tryz.underlying131 (zeroBytes w) (slot_key h0 h1)

set_option maxHeartbeats 400000 in
theorem learn_nil (slot : Int) (v : Value) (w : World) : Calls Tryz.prog 107 #[.pointer none, .int .u64 slot, v] w fun e w' => e = .returned (.int .i64 1) ∧ w = w' := by
  go_enter Tryz.func107, Tryz.ntmps107
  go_wp2
  go_ret
  exact ⟨rfl, rfl⟩
set_option maxHeartbeats 400000 in
theorem learn_worn (b0 : Nat) (v : Value) (w : World) : Calls Tryz.prog 107 #[.pointer (some ⟨b0, 0, none⟩), .int .u64 18446744073709551615, v] w fun e w' => e = .returned (.int .i64 37) ∧ w = w' := by
  go_enter Tryz.func107, Tryz.ntmps107
  go_wp2
  go_ret
  exact ⟨rfl, rfl⟩

set_option maxHeartbeats 800000 in
theorem learn_known {w : World} {b0 bm n : Nat} {m : Kn} {next top slot : Int} {v : Value} {xs ys : List Int} (h : LearnerR w D b0 bm n m next top) (hv : SlR w v (u8s xs)) (ux : U8 xs)
    (h0 : 0 ≤ slot) (h1 : slot < 18446744073709551615) (hk : m slot = some ys) :
    Calls Tryz.prog 107 #[.pointer (some ⟨b0, 0, none⟩), .int .u64 slot, v] w fun e w' => e = .returned (.int .i64 (if ys = xs then 31 else 33)) ∧ w = w' := by
  obtain ⟨c0, c1, c2, z1, z2⟩ := h.cells.cell0
  obtain ⟨hne, ⟨f, hf, hvals⟩, hsm⟩ := h.map
  have hl := look_two hf h0 (by omega : slot ≤ 18446744073709551615)
  have hval := hvals slot h0 (by omega)
  rw [hk] at hval
  obtain ⟨a, c, e1, e2, e3, e4, e5⟩ := hval
  rw [e1] at hl
  have hEq := Lib.hid (equal_any e2 hv (hsm _ _ hk).1 ux)
  have hne2 : (slot == 18446744073709551615) = false := by rw [beq_eq_false_iff_ne]; omega
  simp only [lookV, Option.getD_some, Option.isSome_some] at hl
  clear hvals hsm e1 e2 hf h hv
  by_cases hxy : ys = xs
  · have hb : (ys == xs) = true := by simpa using hxy
    rw [hb] at hEq
    rw [if_pos hxy]
    clear hxy hb hk
    go_enter Tryz.func107, Tryz.ntmps107
    go_wp2_with (go_at_call 94; refine hEq.out.mono ?_; rintro e w' ⟨rfl, rfl⟩)
    go_ret
    exact ⟨rfl, rfl⟩
  · have hb : (ys == xs) = false := by simpa using hxy
    rw [hb] at hEq
    rw [if_neg hxy]
    clear hxy hb hk
    go_enter Tryz.func107, Tryz.ntmps107
    go_wp2_with (go_at_call 94; refine hEq.out.mono ?_; rintro e w' ⟨rfl, rfl⟩)
    go_ret
    exact ⟨rfl, rfl⟩

/-- Behind a value that was new. -/
def LearnNew (D : Nat → Prop) (b0 bm n : Nat) (m : Kn) (slot : Int) (xs : List Int) (w : World) (e : Ending) (w' : World) : Prop :=
  e = .returned (.int .i64 0) ∧ ∃ D', (∃ next top, LearnerR w' D' b0 bm (n + 1) (putK m slot xs) next top) ∧ Moved D D' w w'

def nextOf (b0 : Nat) (w : World) : Int := match w.cell? ⟨b0, 1, none⟩ with | some (.int _ n) => n | _ => 0

theorem nextOf_of {b0 bm : Nat} {w : World} {next top : Int} (h : LCells b0 bm w next top) : nextOf b0 w = next := by
  have := h.cell0.2.1
  simp [nextOf, this]
theorem LCells.setTop {b0 bm : Nat} {w : World} {next top : Int} (h : LCells b0 bm w next top) (t : Int) : LCells b0 bm (w.setCell ⟨b0, 2, none⟩ (.int .u64 t)) next t := by
  unfold LCells at *
  rw [heap_setCell_same w b0 2 _ _ _ h]; rfl
theorem LCells.setNext {b0 bm : Nat} {w : World} {next top : Int} (h : LCells b0 bm w next top) (t : Int) : LCells b0 bm (w.setCell ⟨b0, 1, none⟩ (.int .u64 t)) t top := by
  unfold LCells at *
  rw [heap_setCell_same w b0 1 _ _ _ h]; rfl
theorem LMap.put {D' : Nat → Prop} {w w' : World} {b0 bm n : Nat} {m : Kn} {f : Lit → Option Value} {slot : Int} {xs : List Int} {a : Addr} {c : Nat} (hne : bm ≠ b0)
    (hv : ∀ a : Int, 0 ≤ a → a ≤ 18446744073709551615 → LVal w D b0 bm (f (.int .u64 a)) (m a)) (hs : ∀ a xs, m a = some xs → U8 xs ∧ xs.length ≤ 1048576)
    (hm : MapR w' Tryz.prog 39 bm (n + 1) (putF f (.int .u64 slot) (.slice (some a) xs.length c))) (hk : Keep (LS b0 bm) w w') (hsl : SlR w' (.slice (some a) xs.length c) (u8s xs)) (ha : a.block ≠ b0 ∧ a.block ≠ bm ∧ D' a.block) (hD : ∀ k, D k → D' k) (ux : U8 xs) (lx : xs.length ≤ 1048576) :
    LMap w' D' b0 bm (n + 1) (putK m slot xs) := by
  refine ⟨hne, ⟨_, hm, fun j h0 h1 => ?_⟩, fun j ys hj => ?_⟩
  · rw [putF_int]
    by_cases e : j = slot
    · subst e; rw [if_pos rfl, putK_self]; exact ⟨a, c, rfl, hsl, ha.1, ha.2.1, ha.2.2⟩
    · rw [if_neg e, putK_ne _ _ _ _ e]; exact (hv j h0 h1).keep hk (fun k hs _ => hs) hD
  · by_cases e : j = slot
    · subst e; rw [putK_self] at hj; cases hj; exact ⟨ux, lx⟩
    · rw [putK_ne _ _ _ _ e] at hj; exact hs j ys hj

set_option maxHeartbeats 1600000 in
theorem learn_new {w : World} {b0 bm n : Nat} {m : Kn} {next top slot : Int} {v : Value} {xs : List Int} (h : LearnerR w D b0 bm n m next top) (hv : SlR w v (u8s xs)) (ux : U8 xs) (lx : xs.length ≤ 1048576)
    (h0 : 0 ≤ slot) (h1 : slot < 18446744073709551615) (hn : n < 1000000) (hk : m slot = none) :
    Calls Tryz.prog 107 #[.pointer (some ⟨b0, 0, none⟩), .int .u64 slot, v] w (LearnNew D b0 bm n m slot xs w) := by
  have H := Lib.hid h
  have HDm := Lib.hid h.dm
  have HD0 := Lib.hid h.d0
  have HLt := Lib.hid h.lt
  obtain ⟨c0, c1, c2, z1, z2⟩ := h.cells.cell0
  obtain ⟨hne, ⟨f, hf, hvals⟩, hsm⟩ := h.map
  have hl := look_two hf h0 (by omega : slot ≤ 18446744073709551615)
  have hval := hvals slot h0 (by omega)
  rw [hk] at hval
  simp only [LVal] at hval
  rw [hval] at hl
  simp only [lookV, Option.getD_none, Option.isSome_none] at hl
  have hne2 : (slot == 18446744073709551615) = false := by rw [beq_eq_false_iff_ne]; omega
  have hb0 : b0 < w.heap.size := by have := h.cells; unfold LCells at this; exact (Array.getElem?_eq_some_iff.1 this).1
  obtain ⟨i0, hi, hz0, hz1, hz2⟩ := info_parts Tryz.byteInfo
  have HV := Lib.hid hv
  have HM := Lib.hid hf
  have hlen : (u8s xs).length ≤ 1048576 := by simpa using lx
  have HVals := Lib.hid hvals
  have HK := Lib.hid hk
  have Hsm := Lib.hid hsm
  obtain ⟨cs, hcs⟩ : ∃ cs, cs = u8s xs := ⟨_, rfl⟩
  have hone := u8s_one xs
  rw [← hcs] at HV hlen hone
  have HCs := Lib.hid hcs
  have HOne := Lib.hid hone
  clear hvals hsm hf h hv hk hval hcs hone
  go_enter Tryz.func107, Tryz.ntmps107
  go_wp2_with fail
  have hownE : (w.alloc (.cells #[] 5)).drew.ownsRow w.heap.size 5 1 (.slice (some ⟨w.heap.size, 0, none⟩) 0 0) 0 [] := World.ownsRow.drew (World.ownsRow_made w #[] 0 (Nat.le_refl _) (by decide) rfl)
  have hbE : Below w.heap.size w (w.alloc (.cells #[] 5)).drew := ((Below.refl _ _).alloc (Nat.le_refl _) _).drew
  have HOwnE := Lib.hid hownE
  have HBE := Lib.hid hbE
  have HSrc := Lib.hid (HV.out.below hbE (Nat.le_refl _))
  have hbm := HM.out.lt
  clear hownE hbE
  go_region_held3 (fun w' => w'.cell? ⟨b0, 0, none⟩ = some (.map (some bm))) (first | go_keep | exact hcA | exact hcB)
    (first
      | (refine step_appSrc rfl (.tmp 31) (.tmp 32) 27 rfl w.heap.size 5 i0 (.int .u8 0) 1 Tryz.underlying27 hi hz0 hz1 hz2 rfl (by omega) rfl rfl HOwnE.out HSrc.out HOne.out (by omega) (by simp) ?_
         intro v' w1 hown hb1 _ _ hnn
         have hb1' := HBE.out.trans hb1
         have hm1 := HM.out.same (hb1'.block bm hbm)
         obtain ⟨w2, hrun, hm2, hg2⟩ := hm1.store slotKey Tryz.underlying131 (by unfold maxLen; omega) (val := v') (slot_key h0 (by omega)) (by trivial)
         have hcA : w1.cell? ⟨b0, 0, none⟩ = some (.map (some bm)) := (hb1'.cell (p := ⟨b0, 0, none⟩) hb0).trans c0
         have hcB : w2.cell? ⟨b0, 0, none⟩ = some (.map (some bm)) := hg2.cell hcA (by simp; omega)
         have hown := Lib.hid hown
         have hm2 := Lib.hid hm2
         have hg2 := Lib.hid hg2
         have hb1' := Lib.hid hb1'
         have hnn := Lib.hid (hnn (show (Value.slice (some ⟨w.heap.size, 0, none⟩) 0 0) ≠ .slice none 0 0 by simp))
         clear hm1 hb1)
      | fail)
  have hcells1 : LCells b0 bm w1 next top := (hb1'.out.block b0 hb0).trans H.out.cells
  have hcells2 : LCells b0 bm w2 next top := (hg2.out.block b0 (by have := hb1'.out.size; omega) (by simp; omega)).trans hcells1
  obtain ⟨d0, d1, d2, y1, y2⟩ := hcells2.cell0
  have hk2 : Keep (LS b0 bm) w w2 := (Below.keep0 _ hb1'.out).trans (Keep.grown hg2.out (fun k hk => Or.inr (by cases hk; rfl)))
  obtain ⟨g, cap, hv', hge, _⟩ := own_some hown.out hnn.out
  subst hv'
  have hlm : LMap w2 (fun k => D k ∨ k = g) b0 bm (n + 1) (putK m slot xs) := by
    have h1 := hown.out
    rw [HCs.out] at h1
    have e : 0 + (u8s xs).length = xs.length := by simp
    rw [e] at h1
    have h2 := hm2.out
    rw [HCs.out, e] at h2
    refine LMap.put hne HVals.out Hsm.out h2 hk2 ?_ ⟨by show g ≠ b0; omega, by show g ≠ bm; omega, Or.inr rfl⟩ (fun k h => Or.inl h) ux lx
    have h3 := SlR.of_own h1
    rw [List.nil_append] at h3
    exact h3.keep (S := fun k => k = bm) (Keep.grown hg2.out (fun k hk => by cases hk; rfl)) (fun k hk hs => by simp [Value.ownBlock] at hk; omega)
  have htop : IsTop (putK m slot xs) (max top (slot + 1)) := H.out.top.put h0 h1
  obtain ⟨T, hT⟩ : ∃ T, T = max top (slot + 1) := ⟨_, rfl⟩
  rw [← hT] at htop
  have hTm : T ≤ 18446744073709551615 := htop.2.1
  have hT0 : 0 ≤ T := htop.1
  have hnx : ∀ j, 0 ≤ j → j < next → putK m slot xs j ≠ none := fun j h0 h1 => by
    by_cases e : j = slot
    · subst e; rw [putK_self]; simp
    · rw [putK_ne _ _ _ _ e]; exact H.out.next.2.1 j h0 h1
  have hn0 := H.out.next.1
  have hcells3 := Lib.hid (hcells2.setTop T)
  have hk3 : Keep (LS b0 bm) w (w2.setCell ⟨b0, 2, none⟩ (.int .u64 T)) := hk2.setCell (Or.inl (Or.inl rfl)) _
  have hlm3 : LMap (w2.setCell ⟨b0, 2, none⟩ (.int .u64 T)) (fun k => D k ∨ k = g) b0 bm (n + 1) (putK m slot xs) := hlm.same (S := fun k => k = b0) ((Keep.refl (fun k => k = b0) w2).setCell (p := ⟨b0, 2, none⟩) (Or.inl rfl) _) (fun k h _ => h) (Or.inl H.out.dm) (fun _ h => h)
  have Hk3 := Lib.hid hk3
  have HGe : Hid (w.heap.size ≤ g) := Lib.hid hge
  have HGl : Hid (g < (w2.setCell ⟨b0, 2, none⟩ (.int .u64 T)).heap.size) := Lib.hid (by have h1 := (hown.out.lt g rfl).2; have h2 := hg2.out.size; simp [World.setCell]; omega)
  have Hlm3 := Lib.hid hlm3
  have Htop := Lib.hid htop
  have Hnx := Lib.hid hnx
  have hTc : (top ≤ slot ∧ T = slot + 1) ∨ (slot + 1 ≤ top ∧ T = top) := by omega
  clear hk2 hlm hcells1 hcells2 htop hnx hk3 hlm3 hT
  obtain ⟨m', hme⟩ : ∃ m', m' = putK m slot xs := ⟨_, rfl⟩
  rw [← hme] at Hlm3 Htop Hnx
  have HMe := Lib.hid hme
  clear hme
  have hT0' := hT0
  rcases hTc with ⟨hc1, hTe⟩ | ⟨hc1, hTe⟩
  · subst hTe
    go_wp2
    generalize slot + 1 = T at *
    generalize w2.setCell ⟨b0, 2, none⟩ (.int .u64 T) = w3 at *
    clear hT0' hc1 c0 c1 c2 z1 z2 d0 d1 d2 y1 y2 hl hcA hcB hrun hne2 H HV HVals HK Hsm HOne HOwnE HBE HSrc hown hm2 hg2 hb1' hnn HM HCs hi hz0 hz1 hz2
    go_loopw [] (fun wr => ∃ nx : Int, LCells b0 bm wr nx T ∧ 0 ≤ nx ∧ (∀ j, 0 ≤ j → j < nx → m' j ≠ none) ∧ Keep (fun k => k = b0) w3 wr) (fun wr => (T - nextOf b0 wr).toNat)
    case atStart => exact ⟨next, hcells3.out, hn0, Hnx.out, Keep.refl _ _⟩
    case round =>
      obtain ⟨nx, hc, hx0, hxs, hkp⟩ := hrel
      obtain ⟨d0, d1, d2, y1, y2⟩ := hc.cell0
      have hxT : nx ≤ T := by
        rcases Int.lt_or_le T nx with h1 | h1
        · have := (Htop.out.2.2.1 T (hxs T hT0 h1)).2; omega
        · exact h1
      have hlr := Hlm3.out.same hkp (fun k h _ => h) (Or.inl HDm.out) (fun _ h => h)
      obtain ⟨_, ⟨f', hf', hv'⟩, _⟩ := hlr
      have hval := hv' nx hx0 (by omega)
      have hlook : ∀ q : Nat, (Instr.lookup 131 (.map (some bm)) (.int .u64 nx) false).run Tryz.prog (wr.drewN q) = .ok (lookV (f' (.int .u64 nx))) (wr.drewN q) := fun q => look_one (hf'.same rfl) hx0 (by omega)
      have HC := Lib.hid hc
      have HXS := Lib.hid hxs
      have HKP := Lib.hid hkp
      have HLR := Lib.hid (Hlm3.out.same hkp (fun k h _ => h) (Or.inl HDm.out) (fun _ h => h))
      have hnil := fun (w : World) (a : Option Addr) (n c : Nat) => run_neq_slice_nil_any (P := Tryz.prog) w 27 5 a n c 0 0 Tryz.underlying27
      have hno : nextOf b0 wr = nx := by simp [nextOf, d1]
      cases hm' : m' nx with
      | none =>
        rw [hm'] at hval
        simp only [LVal] at hval
        rw [hval] at hlook
        have HN := Lib.hid hm'
        simp only [lookV, Option.getD_none] at hlook
        clear hv' hf' hval hc hxs hkp hm' hno
        go_wp2
        go_quiet (fail)
        go_wp2
        go_ret
        have hkE := (Hk3.out.trans (HKP.out.mono (fun k _ h => Or.inl h)))
        refine ⟨rfl, fun k => D k ∨ k = g, ?_, ⟨(hkE.mono (fun k _ e => ?_)).drewN _, fun k h => Or.inl h, fun k h => ?_⟩⟩
        · rw [← HMe.out]
          exact ⟨nx, T, ⟨HC.out, HLR.out.same (S := fun k => k = b0) ((Keep.refl _ _).drewN _) (fun k h _ => h) (Or.inl HDm.out) (fun _ h => h), ⟨hx0, HXS.out, HN.out⟩, Htop.out, fun k hk => (by
            rcases hk with e | rfl
            · exact Nat.lt_of_lt_of_le (HLt.out k e) hkE.size
            · exact Nat.lt_of_lt_of_le HGl.out HKP.out.size), Or.inl HD0.out, Or.inl HDm.out⟩⟩
        · rcases e with rfl | rfl
          · exact HD0.out
          · exact HDm.out
        · rcases h with e | rfl
          · exact Or.inl e
          · exact Or.inr HGe.out
      | some ys =>
        rw [hm'] at hval
        obtain ⟨ad, cd, e1, _, _, _, _⟩ := hval
        rw [e1] at hlook
        simp only [lookV, Option.getD_some] at hlook
        have hlt : nx < T := (Htop.out.2.2.1 nx (by rw [hm']; simp)).2
        have HS := Lib.hid hm'
        have hcs := Lib.hid (hc.setNext (nx + 1))
        have hcd : ∀ q : Nat, LCells b0 bm ((wr.drewN q).setCell ⟨b0, 1, none⟩ (.int .u64 (nx + 1))) (nx + 1) T := fun q => hcs.out
        have hcd := Lib.hid hcd
        clear hv' hf' hc hxs hkp hm' hno e1
        go_wp2
        go_quiet (fail)
        go_wp2
        go_roundw
        case rel => exact ⟨nx + 1, hcs.out, by omega, fun j h0 h1 => by
          by_cases e : j = nx
          · subst e; rw [HS.out]; simp
          · exact HXS.out j h0 (by omega), (HKP.out.setCell (p := ⟨b0, 1, none⟩) (Or.inl rfl) _).drewN _⟩
        case measure => rw [nextOf_of (hcd.out _), nextOf_of HC.out]; omega
  · subst hTe
    go_wp2
    generalize w2.setCell ⟨b0, 2, none⟩ (.int .u64 T) = w3 at *
    clear hT0' hc1 c0 c1 c2 z1 z2 d0 d1 d2 y1 y2 hl hcA hcB hrun hne2 H HV HVals HK Hsm HOne HOwnE HBE HSrc hown hm2 hg2 hb1' hnn HM HCs hi hz0 hz1 hz2
    go_loopw [] (fun wr => ∃ nx : Int, LCells b0 bm wr nx T ∧ 0 ≤ nx ∧ (∀ j, 0 ≤ j → j < nx → m' j ≠ none) ∧ Keep (fun k => k = b0) w3 wr) (fun wr => (T - nextOf b0 wr).toNat)
    case atStart => exact ⟨next, hcells3.out, hn0, Hnx.out, Keep.refl _ _⟩
    case round =>
      obtain ⟨nx, hc, hx0, hxs, hkp⟩ := hrel
      obtain ⟨d0, d1, d2, y1, y2⟩ := hc.cell0
      have hxT : nx ≤ T := by
        rcases Int.lt_or_le T nx with h1 | h1
        · have := (Htop.out.2.2.1 T (hxs T hT0 h1)).2; omega
        · exact h1
      have hlr := Hlm3.out.same hkp (fun k h _ => h) (Or.inl HDm.out) (fun _ h => h)
      obtain ⟨_, ⟨f', hf', hv'⟩, _⟩ := hlr
      have hval := hv' nx hx0 (by omega)
      have hlook : ∀ q : Nat, (Instr.lookup 131 (.map (some bm)) (.int .u64 nx) false).run Tryz.prog (wr.drewN q) = .ok (lookV (f' (.int .u64 nx))) (wr.drewN q) := fun q => look_one (hf'.same rfl) hx0 (by omega)
      have HC := Lib.hid hc
      have HXS := Lib.hid hxs
      have HKP := Lib.hid hkp
      have HLR := Lib.hid (Hlm3.out.same hkp (fun k h _ => h) (Or.inl HDm.out) (fun _ h => h))
      have hnil := fun (w : World) (a : Option Addr) (n c : Nat) => run_neq_slice_nil_any (P := Tryz.prog) w 27 5 a n c 0 0 Tryz.underlying27
      have hno : nextOf b0 wr = nx := by simp [nextOf, d1]
      cases hm' : m' nx with
      | none =>
        rw [hm'] at hval
        simp only [LVal] at hval
        rw [hval] at hlook
        have HN := Lib.hid hm'
        simp only [lookV, Option.getD_none] at hlook
        clear hv' hf' hval hc hxs hkp hm' hno
        go_wp2
        go_quiet (fail)
        go_wp2
        go_ret
        have hkE := (Hk3.out.trans (HKP.out.mono (fun k _ h => Or.inl h)))
        refine ⟨rfl, fun k => D k ∨ k = g, ?_, ⟨(hkE.mono (fun k _ e => ?_)).drewN _, fun k h => Or.inl h, fun k h => ?_⟩⟩
        · rw [← HMe.out]
          exact ⟨nx, T, ⟨HC.out, HLR.out.same (S := fun k => k = b0) ((Keep.refl _ _).drewN _) (fun k h _ => h) (Or.inl HDm.out) (fun _ h => h), ⟨hx0, HXS.out, HN.out⟩, Htop.out, fun k hk => (by
            rcases hk with e | rfl
            · exact Nat.lt_of_lt_of_le (HLt.out k e) hkE.size
            · exact Nat.lt_of_lt_of_le HGl.out HKP.out.size), Or.inl HD0.out, Or.inl HDm.out⟩⟩
        · rcases e with rfl | rfl
          · exact HD0.out
          · exact HDm.out
        · rcases h with e | rfl
          · exact Or.inl e
          · exact Or.inr HGe.out
      | some ys =>
        rw [hm'] at hval
        obtain ⟨ad, cd, e1, _, _, _, _⟩ := hval
        rw [e1] at hlook
        simp only [lookV, Option.getD_some] at hlook
        have hlt : nx < T := (Htop.out.2.2.1 nx (by rw [hm']; simp)).2
        have HS := Lib.hid hm'
        have hcs := Lib.hid (hc.setNext (nx + 1))
        have hcd : ∀ q : Nat, LCells b0 bm ((wr.drewN q).setCell ⟨b0, 1, none⟩ (.int .u64 (nx + 1))) (nx + 1) T := fun q => hcs.out
        have hcd := Lib.hid hcd
        clear hv' hf' hc hxs hkp hm' hno e1
        go_wp2
        go_quiet (fail)
        go_wp2
        go_roundw
        case rel => exact ⟨nx + 1, hcs.out, by omega, fun j h0 h1 => by
          by_cases e : j = nx
          · subst e; rw [HS.out]; simp
          · exact HXS.out j h0 (by omega), (HKP.out.setCell (p := ⟨b0, 1, none⟩) (Or.inl rfl) _).drewN _⟩
        case measure => rw [nextOf_of (hcd.out _), nextOf_of HC.out]; omega
end Go.Proofs.YtgmdedkingampaaGreat.Ln

namespace Go.Proofs.YtgmdedkingampaaGreat
open Go.ChangeShapes Go.WideShapes Go.ChangeAt Go.RowKit Go.Maps
set_option maxRecDepth 100000
set_option linter.unusedVariables false
set_option linter.unusedSimpArgs false

theorem ln_next {D : Nat → Prop} {w : World} {b0 bm n : Nat} {m : Ln.Kn} {next top : Int} (h : Ln.LearnerR w D b0 bm n m next top) : Calls Tryz.prog 29 #[.pointer (some ⟨b0, 0, none⟩)] w fun e w' => e = .returned (.int .u64 next) ∧ w = w' := by
  obtain ⟨c0, c1, c2, _, _⟩ := h.cells.cell0
  clear h
  go_enter Tryz.func29, Tryz.ntmps29
  go_wp2
  go_ret
  exact ⟨rfl, rfl⟩
/-- A value that is known, in new memory. -/
def RetLn (w : World) (x : Option (List Int)) (e : Ending) (w' : World) : Prop :=
  ∃ v, e = .returned (.tuple #[v, .bool x.isSome]) ∧ w'.ownsRow w.heap.size 5 1 v (x.getD []).length (u8s (x.getD [])) ∧ Below w.heap.size w w'
theorem ln_get {D : Nat → Prop} {w : World} {b0 bm n : Nat} {m : Ln.Kn} {next top slot : Int} (h : Ln.LearnerR w D b0 bm n m next top) (h0 : 0 ≤ slot) (h1 : slot ≤ 18446744073709551615) :
    Calls Tryz.prog 30 #[.pointer (some ⟨b0, 0, none⟩), .int .u64 slot] w (RetLn w (m slot)) := by
  obtain ⟨c0, c1, c2, _, _⟩ := h.cells.cell0
  obtain ⟨hne, ⟨f, hf, hvals⟩, hsm⟩ := h.map
  have hl := Ln.look_two hf h0 h1
  have hval := hvals slot h0 h1
  cases hms : m slot with
  | none =>
    rw [hms] at hval
    simp only [Ln.LVal] at hval
    rw [hval] at hl
    simp only [Ln.lookV, Option.getD_none, Option.isSome_none] at hl
    have HCl := Lib.hid (cloneB_any (w := w) (v := .slice none 0 0) (xs := []) (SlR.nil w) (by decide))
    clear h hvals hsm hf
    go_enter Tryz.func30, Tryz.ntmps30
    go_wp2_with fail
    refine HCl.out.mono ?_
    rintro e w2 ⟨v', rfl, ho, hb⟩
    have HO := Lib.hid ho
    have HB := Lib.hid hb
    clear ho hb
    go_wp2_with fail
    go_returns
    exact ⟨v', rfl, HO.out, HB.out⟩
  | some xs =>
    rw [hms] at hval
    obtain ⟨a, c, e1, e2, e3, e4, e5⟩ := hval
    rw [e1] at hl
    simp only [Ln.lookV, Option.getD_some, Option.isSome_some] at hl
    have HCl := Lib.hid (cloneB_any e2 (by have := (hsm _ _ hms).2; omega))
    clear h hvals hsm hf e2
    go_enter Tryz.func30, Tryz.ntmps30
    go_wp2_with fail
    refine HCl.out.mono ?_
    rintro e w2 ⟨v', rfl, ho, hb⟩
    have HO := Lib.hid ho
    have HB := Lib.hid hb
    clear ho hb
    go_wp2_with fail
    go_returns
    exact ⟨v', rfl, HO.out, HB.out⟩
def LnO (b0 : Nat) (D : Nat → Prop) (n : Nat) (w : World) (m : Ln.Kn) (next : Int) : Prop := ∃ bm top, Ln.LearnerR w D b0 bm n m next top
def obLn (b0 : Nat) (D : Nat → Prop) (n : Nat) (m : Ln.Kn) (next : Int) : Ob := ⟨D, fun w => LnO b0 D n w m next⟩
theorem obLn_good (b0 : Nat) (D : Nat → Prop) (n : Nat) (m : Ln.Kn) (next : Int) : (obLn b0 D n m next).Good :=
  ⟨fun {S w w'} h hk hs => by obtain ⟨bm, top, h⟩ := (h : LnO b0 D n w m next); exact ⟨bm, top, h.keep hk hs⟩, fun {w} h k hk => by obtain ⟨bm, top, h⟩ := (h : LnO b0 D n w m next); exact h.lt k hk⟩
section
variable {W w : World} {os : List Ob} {b0 n : Nat} {D : Nat → Prop} {m : Ln.Kn} {next : Int}
theorem SepW.lnNew (h : SepW W w os) : Calls Tryz.prog 63 #[] w fun e w' => ∃ b0 D, e = .returned (.pointer (some ⟨b0, 0, none⟩)) ∧ SepW W w' (obLn b0 D 0 (fun _ => none) 0 :: os) :=
  (Ln.new_any w).mono fun e w' ⟨h1, h2, h3⟩ => ⟨_, _, h1, h.new h3 (obLn_good ..) ⟨_, _, h2⟩ (fun k hk => hk.1)⟩
theorem SepW.lnNext (h : SepW W w os) (i : Nat) (hi : os[i]? = some (obLn b0 D n m next)) : Calls Tryz.prog 29 #[.pointer (some ⟨b0, 0, none⟩)] w fun e w' => e = .returned (.int .u64 next) ∧ w = w' := by
  obtain ⟨bm, top, hl⟩ := (h.get i hi : LnO b0 D n w m next)
  exact ln_next hl
theorem SepW.lnGet (h : SepW W w os) (i : Nat) (hi : os[i]? = some (obLn b0 D n m next)) {slot : Int} (h0 : U1 slot) : Calls Tryz.prog 30 #[.pointer (some ⟨b0, 0, none⟩), .int .u64 slot] w fun e w' =>
    ∃ v, e = .returned (.tuple #[v, .bool (m slot).isSome]) ∧ SepW W w' (obRow v 5 1 ((m slot).getD []).length (u8s ((m slot).getD [])) :: os) ∧ Below w.heap.size w w' := by
  obtain ⟨bm, top, hl⟩ := (h.get i hi : LnO b0 D n w m next)
  exact (ln_get hl h0.1 h0.2).mono fun e w' ⟨v, h1, h2, h3⟩ => ⟨v, h1, h.newRow h2 h3, h3⟩
theorem SepW.lnLearn (h : SepW W w os) (i : Nat) (hi : os[i]? = some (obLn b0 D n m next)) {slot : Int} (h0 : 0 ≤ slot) (h1 : slot < 18446744073709551615) {v : Value} {xs : List Int} (hv : SlR w v (u8s xs)) (ux : U8 xs) (lx : xs.length ≤ 1048576) (hn : n < 1000000) (hk : m slot = none) :
    Calls Tryz.prog 107 #[.pointer (some ⟨b0, 0, none⟩), .int .u64 slot, v] w fun e w' => e = .returned (.int .i64 0) ∧ ∃ D' next', SepW W w' (os.set i (obLn b0 D' (n + 1) (Ln.putK m slot xs) next')) := by
  obtain ⟨bm, top, hl⟩ := (h.get i hi : LnO b0 D n w m next)
  exact (Ln.learn_new hl hv ux lx h0 h1 hn hk).mono fun e w' ⟨h1, D', ⟨nx, tp, h2⟩, h3⟩ => ⟨h1, D', nx, h.set i hi h3.keep (obLn_good ..) ⟨_, _, h2⟩ h3.new⟩
end
end Go.Proofs.YtgmdedkingampaaGreat
