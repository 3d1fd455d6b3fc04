/-
  A learner that a law has made; the document's example.
-/
import Derived.Test.YtfkganccglmmlaaGaps
import Derived.Lib.SlBytesConst
namespace Go.Proofs.Ytfkganccglmmlaa
open Go.ChangeShapes Go.WideShapes Go.ChangeAt Go.RowKit Go.Maps

/-- A learner that was made in world w1 and knows m. -/
structure LW (w1 w : World) (n : Nat) (m : Kn) : Prop where
  lr : ∃ next top, LearnerR w (w1.heap.size + 1) w1.heap.size n m next top
  below : Below w1.heap.size w1 w
theorem LW.step {w1 w w' : World} {n : Nat} {m : Kn} (h : LW w1 w n m) (hb : Below w.heap.size w w') : LW w1 w' n m := by
  obtain ⟨⟨next, top, hl⟩, h2⟩ := h
  exact ⟨⟨next, top, hl.below hb⟩, h2.trans (hb.mono h2.size)⟩
theorem SlR.setOther {w : World} {v : Value} {cs : List Value} (h : SlR w v cs) {p : Addr} {old : Value} (hp : w.cell? p = some old) (ho : ∀ u ∈ cs, u ≠ old) (u : Value) : SlR (w.setCell p u) v cs := by
  obtain ⟨ao, c, rfl, h1, h2, hx⟩ := h
  refine ⟨ao, c, rfl, h1, h2, fun i x hi => ?_⟩
  obtain ⟨a, ha, hc⟩ := hx i x hi
  refine ⟨a, ha, (World.cell?_setCell_other _ _ _ _ ?_).trans hc⟩
  intro e
  rw [e] at hp
  rw [hp] at hc
  exact ho x (List.mem_of_getElem? hi) (by cases hc; rfl)
theorem u8s_ne {xs : List Int} {old : Value} (h : ∀ x, old ≠ .int .u8 x) : ∀ u ∈ u8s xs, u ≠ old := by
  intro u hu e
  obtain ⟨x, _, rfl⟩ := List.mem_map.1 hu
  exact h x e.symm
theorem LearnerR.setOther {w : World} {b0 bm n : Nat} {m : Kn} {next top : Int} (h : LearnerR w b0 bm n m next top) {p : Addr} {old : Value} (hp : w.cell? p = some old) (ho : ∀ x, old ≠ .int .u8 x)
    (h0 : p.block ≠ b0) (hm : p.block ≠ bm) (u : Value) : LearnerR (w.setCell p u) b0 bm n m next top := by
  obtain ⟨hc, ⟨h1, ⟨f, hf, hv⟩, h2⟩, h3, h4⟩ := h
  refine ⟨(Below.heap_setCell _ _ _ _ (by omega)).trans hc, ⟨h1, ⟨f, hf.same (Below.heap_setCell _ _ _ _ (by omega)), fun a ha hb => ?_⟩, h2⟩, h3, h4⟩
  have := hv a ha hb
  cases hma : m a with
  | none => rw [hma] at this; exact this
  | some xs =>
    rw [hma] at this
    obtain ⟨ad, c, e1, e2, e3, e4⟩ := this
    exact ⟨ad, c, e1, e2.setOther hp (u8s_ne ho) u, e3, e4⟩
theorem LW.setOther {w1 w : World} {n : Nat} {m : Kn} (h : LW w1 w n m) {p : Addr} {old : Value} (hp : w.cell? p = some old) (ho : ∀ x, old ≠ .int .u8 x) (h0 : w1.heap.size + 2 ≤ p.block) (u : Value) : LW w1 (w.setCell p u) n m := by
  obtain ⟨⟨next, top, hl⟩, h2⟩ := h
  exact ⟨⟨next, top, hl.setOther hp ho (by omega) (by omega) u⟩, h2.setCell (by omega) u⟩
theorem LW.size {w1 w : World} {n : Nat} {m : Kn} (h : LW w1 w n m) : w1.heap.size + 2 ≤ w.heap.size := by
  obtain ⟨⟨next, top, hl⟩, h2⟩ := h
  have := hl.cells
  unfold LCells at this
  exact (Array.getElem?_eq_some_iff.1 this).1
/-- A learner's address. -/
abbrev lp (w1 : World) : Value := .pointer (some ⟨w1.heap.size + 1, 0, none⟩)
theorem new_lw (w1 : World) : Calls Try.prog 8 #[] w1 fun e w' => e = .returned (lp w1) ∧ LW w1 w' 0 (fun _ => none) :=
  (new_any w1).mono fun _ _ ⟨h1, h2, h3⟩ => ⟨h1, ⟨_, _, h2⟩, h3⟩
theorem LW.learn {w1 w : World} {n : Nat} {m : Kn} (h : LW w1 w n m) {v : Value} {xs : List Int} {slot : Int} (hv : SlR w v (u8s xs)) (ux : U8 xs) (lx : xs.length ≤ 1048576)
    (h0 : 0 ≤ slot) (h1 : slot < 18446744073709551615) (hn : n < 1000000) (hk : m slot = none) :
    Calls Try.prog 9 #[lp w1, .int .u64 slot, v] w fun e w' => e = .returned (.int .i64 0) ∧ LW w1 w' (n + 1) (putK m slot xs) ∧ Keep (LS (w1.heap.size + 1) w1.heap.size) w w' := by
  obtain ⟨⟨next, top, hl⟩, h2⟩ := h
  refine (learn_new hl hv ux lx h0 h1 hn hk).mono ?_
  rintro e w' ⟨he, ⟨nx, tp, hr⟩, hkp⟩
  exact ⟨he, ⟨⟨nx, tp, hr⟩, h2.trans (hkp.below h2.size (fun k hk => by rcases hk with hk | hk <;> omega))⟩, hkp⟩
theorem LW.known {w1 w : World} {n : Nat} {m : Kn} (h : LW w1 w n m) {v : Value} {xs ys : List Int} {slot : Int} (hv : SlR w v (u8s xs)) (ux : U8 xs)
    (h0 : 0 ≤ slot) (h1 : slot < 18446744073709551615) (hk : m slot = some ys) :
    Calls Try.prog 9 #[lp w1, .int .u64 slot, v] w fun e w' => e = .returned (.int .i64 (if ys = xs then 31 else 33)) ∧ w = w' := by
  obtain ⟨⟨next, top, hl⟩, h2⟩ := h
  exact learn_known hl hv ux h0 h1 hk
theorem LW.next {w1 w : World} {n : Nat} {m : Kn} (h : LW w1 w n m) {next : Int} (hx : IsNext m next) :
    Calls Try.prog 11 #[lp w1] w fun e w' => e = .returned (.int .u64 next) ∧ w = w' := by
  obtain ⟨⟨nx, top, hl⟩, h2⟩ := h
  rw [hx.unique hl.next]
  exact next_any hl
theorem LW.top {w1 w : World} {n : Nat} {m : Kn} (h : LW w1 w n m) {top : Int} (hx : IsTop m top) :
    Calls Try.prog 13 #[lp w1] w fun e w' => e = .returned (.int .u64 top) ∧ w = w' := by
  obtain ⟨⟨nx, tp, hl⟩, h2⟩ := h
  rw [hx.unique hl.top]
  exact top_any hl
theorem LW.get {w1 w : World} {n : Nat} {m : Kn} (h : LW w1 w n m) {slot : Int} (h0 : 0 ≤ slot) (h1 : slot ≤ 18446744073709551615) :
    Calls Try.prog 18 #[lp w1, .int .u64 slot] w (RetGet m slot w) := by
  obtain ⟨⟨nx, tp, hl⟩, h2⟩ := h
  exact get_any hl h0 h1
theorem LW.from {w1 w : World} {n : Nat} {m : Kn} (h : LW w1 w n m) {slot most : Int} (h0 : 0 ≤ slot) (h1 : slot ≤ 18446744073709551615) (hm : most ≤ 1048576) :
    Calls Try.prog 20 #[lp w1, .int .u64 slot, .int .i64 most] w (RetFrom m slot most w) := by
  obtain ⟨⟨nx, tp, hl⟩, h2⟩ := h
  exact from_any hl h0 h1 hm
theorem LW.gaps {w1 w : World} {n : Nat} {m : Kn} (h : LW w1 w n m) {next top : Int} (hx : IsNext m next) (ht : IsTop m top) {most : Int} (hm1 : 1 ≤ most) (hm2 : most ≤ 1048576) :
    Calls Try.prog 16 #[lp w1, .int .i64 most] w fun e W' => ∃ v, e = .returned v ∧ SlR W' v (u64s ((unk m next (top - next).toNat).take most.toNat)) ∧ Below w.heap.size w W' := by
  obtain ⟨⟨nx, tp, hl⟩, h2⟩ := h
  rw [hx.unique hl.next, ht.unique hl.top]
  exact gaps_any hl most hm1 hm2
/-- How many From tells. -/
theorem Run.count {m : Kn} {slot most : Int} {L : List (List Int)} {d : Nat} (h : Run m slot L) (h1 : (L.length : Int) ≤ most ∨ L = []) (h2 : most ≤ L.length ∨ m (slot + L.length) = none)
    (hd : (d : Int) ≤ most) (h3 : ∀ j : Nat, j < d → m (slot + j) ≠ none) (h4 : (d : Int) = most ∨ m (slot + d) = none) : L.length = d := by
  rcases Nat.lt_trichotomy L.length d with hl | hl | hl
  · rcases h2 with h2 | h2
    · omega
    · exact absurd h2 (h3 _ hl)
  · exact hl
  · rcases h4 with h4 | h4
    · rcases h1 with h1 | h1
      · omega
      · subst h1; simp at hl
    · have := h d _ (List.getElem?_eq_getElem hl)
      rw [h4] at this; cases this

theorem lit_u8 (w : World) (a : List Int) (t : TypeId) (fr : Nat × Nat) (ha : a.length ≤ 1000) : SlR (w.alloc (.cells (u8s a).toArray t fr)) (.slice (some ⟨w.heap.size, 0, none⟩) a.length a.length) (u8s a) := by
  have h : (w.alloc (.cells (u8s a).toArray t fr)).heap[w.heap.size]? = some (.cells (u8s a).toArray t fr) := heap_alloc_new w _
  refine ⟨some ⟨w.heap.size, 0, none⟩, a.length, by simp, by simp, by unfold maxLen; omega, fun i u hi => ⟨_, rfl, ?_⟩⟩
  exact World.news_of_block h i u (by simpa using hi)
theorem below_lit (w : World) (o : Obj) : Below w.heap.size w (w.alloc o) := (Below.refl _ _).alloc (Nat.le_refl _) _

/-- What the example's learner knows. -/
def ex1 : Kn := putK (fun _ => none) 0 [97]
def ex2 : Kn := putK ex1 4 []
def ex3 : Kn := putK ex2 1 [99]
theorem ex3_next : IsNext ex3 2 := by
  refine ⟨by decide, fun j h0 h1 => ?_, by decide⟩
  rcases (show j = 0 ∨ j = 1 by omega) with rfl | rfl <;> decide
theorem ex3_top : IsTop ex3 5 := by
  have h0 : IsTop (fun _ => none) 0 := ⟨by omega, by omega, by simp, Or.inl rfl⟩
  have h1 : IsTop ex1 1 := h0.put (xs := [97]) (by omega) (by omega)
  have h2 : IsTop ex2 5 := h1.put (xs := []) (slot := 4) (by omega) (by omega)
  exact h2.put (xs := [99]) (slot := 1) (by omega) (by omega)

set_option maxHeartbeats 2000000 in
theorem awake_any (w : World) : Calls Try.prog 7 #[] w fun e w' => e = .returned (.bool true) ∧ Below w.heap.size w w' := by
  have kc := fun (w : World) (C : Array Value) (n c : Nat) => Lib.run_convert_bytes_const (P := Try.prog) w 28 5 C n c Try.underlying28 Try.underlying5
  go_enter Try.func7, Try.ntmps7
  go_wp2_with fail
  refine (new_lw w).mono ?_
  rintro e w1 ⟨rfl, h1⟩
  have H1 := Lib.hid h1
  clear h1
  go_wp2_with fail
  refine ((H1.out.step (below_lit _ _)).learn (slot := 0) (xs := [97]) (lit_u8 w1 [97] _ _ (by decide)) (by unfold U8; decide) (by decide) (by decide) (by decide) (by decide) rfl).mono ?_
  rintro e w2 ⟨rfl, h2, _⟩
  have H2 := Lib.hid h2
  clear h2
  go_wp2_with fail
  refine (H2.out.learn (slot := 4) (xs := []) (SlR.nil _) (by unfold U8; decide) (by decide) (by decide) (by decide) (by decide) rfl).mono ?_
  rintro e w3 ⟨rfl, h3, _⟩
  have H3 := Lib.hid h3
  clear h3
  go_wp2_with fail
  refine ((H3.out.step (below_lit _ _)).learn (slot := 1) (xs := [99]) (lit_u8 w3 [99] _ _ (by decide)) (by unfold U8; decide) (by decide) (by decide) (by decide) (by decide) rfl).mono ?_
  rintro e w4 ⟨rfl, h4, _⟩
  have H4 : Hid (LW w w4 3 ex3) := Lib.hid h4
  clear h4
  go_wp2_with fail
  refine ((H4.out.step (below_lit _ _)).known (slot := 1) (xs := [100]) (ys := [99]) (lit_u8 w4 [100] _ _ (by decide)) (by unfold U8; decide) (by decide) (by decide) rfl).mono ?_
  rw [show (if [99] = [(100 : Int)] then (31 : Int) else 33) = 33 by decide]
  rintro e w' ⟨rfl, rfl⟩
  have H5 := Lib.hid (H4.out.step (below_lit w4 (.cells (u8s [100]).toArray 5 (1, 2))))
  go_wp2_with fail
  refine (H5.out.gaps ex3_next ex3_top (by decide) (by decide)).mono ?_
  rintro e w6 ⟨v6, rfl, hs6, hb6⟩
  have H6 := Lib.hid (H5.out.step hb6)
  have hg : (unk ex3 2 (5 - 2 : Int).toNat).take (9 : Int).toNat = [2, 3] := by decide
  rw [hg] at hs6
  have hs6 := Lib.hid hs6
  clear hb6 hg H1 H2 H3 H4 H5
  go_wp2_with fail
  refine (H6.out.get (slot := 4) (by decide) (by decide)).mono ?_
  rintro e w7 ⟨v7, x7, rfl, hv7, _, hx7, hb7⟩
  have hx : x7 = [] := by
    rcases hx7 with h | h
    · have : ex3 4 = some [] := by decide
      rw [this] at h; cases h; rfl
    · exact h.2
  subst hx
  have hi7 : (ex3 4).isSome = true := by decide
  rw [hi7]
  have H7 := Lib.hid (H6.out.step hb7)
  have hs7 := Lib.hid (hs6.out.below hb7 (Nat.le_refl _))
  have hv7 := Lib.hid hv7
  clear hb7 hx7 H6 hi7 hs6
  go_wp2_with fail
  refine ((H7.out.step (below_lit _ _)).known (slot := 0) (xs := [97]) (ys := [97]) (lit_u8 w7 [97] _ _ (by decide)) (by unfold U8; decide) (by decide) (by decide) rfl).mono ?_
  rw [show (if [97] = [(97 : Int)] then (31 : Int) else 33) = 31 by decide]
  rintro e w' ⟨rfl, rfl⟩
  have hb8 := below_lit w7 (.cells (u8s [97]).toArray 5 (1, 2))
  have H8 := Lib.hid (H7.out.step hb8)
  obtain ⟨ao6, c6, rfl, hc6, hm6, hx6⟩ := (hs7.out.below hb8 (Nat.le_refl _)).ints
  obtain ⟨a6, rfl, hcell6⟩ := hx6 1 (by decide)
  have hcell6 : (w7.alloc (.cells (u8s [97]).toArray 5 (1, 2))).cell? (a6.add 1) = some (.int .u64 3) := hcell6
  obtain ⟨ao7, c7, rfl, hc7, hm7⟩ := hv7.out.form
  clear hb8 H7 hs7 hv7 hx6
  obtain ⟨w8, hw8⟩ : ∃ w8, w8 = w7.alloc (.cells (u8s [97]).toArray 5 (1, 2)) := ⟨_, rfl⟩
  rw [← hw8] at hcell6 H8 ⊢
  clear hw8 hc7 hm7 hs6
  have hcell6b : w8.cell? ⟨a6.block, a6.off + 1, none⟩ = some (.int .u64 3) := hcell6
  simp only [List.length_map, List.length_nil, List.length_cons, Nat.zero_add, Nat.reduceAdd]
  go_wp2_with (first
    | (go_at_call 11; refine (H8.out.next ex3_next).mono ?_; rintro e w' ⟨rfl, rfl⟩)
    | (go_at_call 13; refine (H8.out.top ex3_top).mono ?_; rintro e w' ⟨rfl, rfl⟩)
    | fail)
  refine (H8.out.from (slot := 0) (most := 9) (by decide) (by decide) (by decide)).mono ?_
  rintro e w9 ⟨v9, L9, rfl, hv9, hr9, hl9, he9, hb9⟩
  have hlen9 : L9.length = 2 := hr9.count (d := 2) hl9 he9 (by decide) (fun j hj => by rcases (show j = 0 ∨ j = 1 by omega) with rfl | rfl <;> decide) (Or.inr (by decide))
  obtain ⟨ao9, c9, rfl, hc9, hm9, _⟩ := hv9.row
  have H9 := Lib.hid (H8.out.step hb9)
  clear hr9 hl9 he9 hb9 hv9 H8
  rw [hlen9] at hc9 ⊢
  clear hlen9
  go_wp2_with fail
  go_ret
  exact ⟨rfl, H9.out.below⟩
end Go.Proofs.Ytfkganccglmmlaa
