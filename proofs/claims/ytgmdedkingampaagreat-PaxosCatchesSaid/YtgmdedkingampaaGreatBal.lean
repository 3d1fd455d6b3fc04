/-
  Packages ballot and elect: a node's next ballot; how long it waits.
-/
import Derived.Test.YtgmdedkingampaaGreatClo
import Derived.Test.YtgmdedkingampaaGreatNumR
import Derived.Test.YtgmdedkingampaaGreatProg
set_option linter.unusedVariables false
set_option linter.unusedSimpArgs false
namespace Go.Proofs.YtgmdedkingampaaGreat
open Go.ChangeShapes Go.WideShapes Go.ChangeAt Go.RowKit Go.Maps
set_option maxRecDepth 100000

theorem and31u {z : Int} (h : U1 z) : bits BinOp.and IntKind.u64 z 31 = z % 32 := bits_mask .u64 64 (by decide) (fun n h0 h1 => IntWalk.u64_in n (by constructor <;> omega)) 5 (by decide) z h.1 (by have := h.2; omega)
theorem or5 {x y : Int} (h0 : 0 ≤ x) (h1 : x < 576460752303423488) (y0 : 0 ≤ y) (y1 : y < 32) : bits BinOp.or IntKind.u64 (x * 32) y = x * 32 + y :=
  bits_join .u64 64 (by decide) (fun n h0 h1 => IntWalk.u64_in n (by constructor <;> omega)) 5 _ _ (by omega) (by show x * 32 % 32 = 0; omega) (by show x * 32 < 18446744073709551616; omega) y0 (by show y < 32; omega) (by show y < 18446744073709551616; omega)
theorem bof_any (w : World) {b : Int} (hb : U1 b) : Calls Tryz.prog 74 #[.int .u64 b] w fun e w' => e = .returned (.agg #[.int .u64 (b / 32), .int .i64 (b % 32)]) ∧ Below w.heap.size w w' := by
  have h1 := and31u hb
  have h2 : IntKind.i64.wrap (b % 32) = b % 32 := IntWalk.i64_in _ (by constructor <;> omega)
  have hB := Lib.hid ((below_lit w (.cells #[.int .u64 0, .int .i64 0] 143)))
  go_enter Tryz.func74, Tryz.ntmps74
  go_wp2_with fail
  go_returns
  exact ⟨rfl, below_lit w _⟩
theorem bwhole_any (w : World) {r k : Int} (h0 : 0 ≤ r) (h1 : r < 576460752303423488) (y0 : 0 ≤ k) (y1 : k < 32) : Calls Tryz.prog 109 #[.agg #[.int .u64 r, .int .i64 k]] w fun e w' => e = .returned (.int .u64 (r * 32 + k)) ∧ Below w.heap.size w w' := by
  have h2 := or5 h0 h1 y0 y1
  have h3 : IntKind.u64.wrap (r * 32) = r * 32 := IntWalk.u64_in _ (by constructor <;> omega)
  have h4 : IntKind.u64.wrap k = k := IntWalk.u64_in _ (by constructor <;> omega)
  have hB := Lib.hid ((below_lit w (.cells #[.int .u64 r, .int .i64 k] 143)))
  go_enter Tryz.func109, Tryz.ntmps109
  go_wp2_with fail
  go_ret
  exact ⟨rfl, below_lit w _⟩
/-- A node's lowest ballot above another one. -/
def nextR (b n : Int) : Int := if n ≤ b % 32 then b / 32 + 1 else b / 32
def nextB (b n : Int) : Option Int := if nextR b n < 576460752303423488 then some (nextR b n * 32 + n) else none
theorem bmake_ok (w : World) {r k : Int} (h0 : 0 ≤ r) (h1 : r < 576460752303423488) (y0 : 0 ≤ k) (y1 : k < 32) : Calls Tryz.prog 75 #[.int .u64 r, .int .i64 k] w fun e w' => e = .returned (.tuple #[.int .u64 (r * 32 + k), .int .i64 0]) ∧ Below w.heap.size w w' := by
  have d1 : decide (k < 0) = false := decide_eq_false (by omega)
  have d2 : decide (32 ≤ k) = false := decide_eq_false (by omega)
  have d3 : decide (576460752303423487 < r) = false := decide_eq_false (by omega)
  go_enter Tryz.func75, Tryz.ntmps75
  go_wp2_with fail
  refine (bwhole_any w h0 h1 y0 y1).mono ?_
  rintro e w2 ⟨rfl, hb⟩
  have HB := Lib.hid hb
  clear hb
  go_wp2_with fail
  go_returns
  exact ⟨rfl, HB.out⟩
theorem bmake_worn (w : World) {r k : Int} (h1 : 576460752303423488 ≤ r) (y0 : 0 ≤ k) (y1 : k < 32) : Calls Tryz.prog 75 #[.int .u64 r, .int .i64 k] w fun e w' => e = .returned (.tuple #[.int .u64 0, .int .i64 37]) ∧ Below w.heap.size w w' := by
  have d1 : decide (k < 0) = false := decide_eq_false (by omega)
  have d2 : decide (32 ≤ k) = false := decide_eq_false (by omega)
  have d3 : decide (576460752303423487 < r) = true := decide_eq_true (by omega)
  go_enter Tryz.func75, Tryz.ntmps75
  go_wp2_with fail
  go_returns
  exact ⟨rfl, Below.refl _ _⟩
def nextE (b n : Int) : Int := if nextR b n < 576460752303423488 then 0 else 37
def nextV (b n : Int) : Int := if nextR b n < 576460752303423488 then nextR b n * 32 + n else 0
theorem bmake_any (w : World) {b n : Int} (hb : U1 b) (y0 : 0 ≤ n) (y1 : n < 32) : Calls Tryz.prog 75 #[.int .u64 (nextR b n), .int .i64 n] w fun e w' => e = .returned (.tuple #[.int .u64 (nextV b n), .int .i64 (nextE b n)]) ∧ Below w.heap.size w w' := by
  unfold nextV nextE
  have hr : 0 ≤ nextR b n := by unfold nextR; have := hb.1; split <;> omega
  by_cases h : nextR b n < 576460752303423488
  · rw [if_pos h, if_pos h]
    exact bmake_ok w hr h y0 y1
  · rw [if_neg h, if_neg h]
    exact bmake_worn w (by omega) y0 y1
theorem bnext_any (w : World) {b n : Int} (hb : U1 b) (y0 : 0 ≤ n) (y1 : n < 32) : Calls Tryz.prog 40 #[.int .u64 b, .int .i64 n] w fun e w' => e = .returned (.tuple #[.int .u64 (nextV b n), .int .i64 (nextE b n)]) ∧ Below w.heap.size w w' := by
  go_enter Tryz.func40, Tryz.ntmps40
  go_wp2_with fail
  refine (bof_any w hb).mono ?_
  rintro e w2 ⟨rfl, h2⟩
  have hb0 := hb.1
  have hb1 := hb.2
  have HM := Lib.hid (fun w => bmake_any w hb y0 y1)
  have hB2 := fun x y : Int => (h2.alloc h2.size (.cells #[.int .u64 y, .int .i64 (b % 32)] 143)).alloc (Nat.le_trans h2.size (by simp)) (.cells #[.int .u64 x, .int .i64 n] 143)
  have HB2 := Lib.hid hB2
  have hn : nextR b n = if n ≤ b % 32 then b / 32 + 1 else b / 32 := rfl
  clear h2 hB2
  rcases (by omega : n < b % 32 ∨ n = b % 32 ∨ b % 32 < n) with hlt | heq | hgt
  · rw [if_pos (by omega)] at hn
    have hw : IntKind.u64.wrap (b / 32 + 1) = b / 32 + 1 := IntWalk.u64_in _ (by constructor <;> omega)
    have hd : decide (n < b % 32) = true := decide_eq_true (by omega)
    have hq : (n == b % 32) = false := beq_eq_false_iff_ne.2 (by omega)
    have HN := Lib.hid hn.symm
    clear hlt hn
    go_wp2_with fail
    rw [HN.out]
    refine (HM.out _).mono ?_
    rintro e w3 ⟨rfl, h3⟩
    have HB3 := Lib.hid ((HB2.out _ _).trans (h3.mono (HB2.out _ _).size))
    clear h3
    go_wp2_with fail
    go_returns
    exact ⟨rfl, HB3.out⟩
  · rw [if_pos (by omega)] at hn
    have hw : IntKind.u64.wrap (b / 32 + 1) = b / 32 + 1 := IntWalk.u64_in _ (by constructor <;> omega)
    have HN := Lib.hid hn.symm
    have HE := Lib.hid heq
    have hd : decide (n < b % 32) = false := decide_eq_false (by omega)
    have hq : (n == b % 32) = true := beq_iff_eq.2 heq
    clear hn heq
    go_wp2_with fail
    rw [HN.out]
    refine (HM.out _).mono ?_
    rintro e w3 ⟨rfl, h3⟩
    have HB3 := Lib.hid ((HB2.out _ _).trans (h3.mono (HB2.out _ _).size))
    clear h3
    go_wp2_with fail
    go_returns
    exact ⟨rfl, HB3.out⟩
  · rw [if_neg (by omega)] at hn
    have hd : decide (n < b % 32) = false := decide_eq_false (by omega)
    have hq : (n == b % 32) = false := beq_eq_false_iff_ne.2 (by omega)
    have hq2 : (b % 32 == n) = false := beq_eq_false_iff_ne.2 (by omega)
    have HN := Lib.hid hn.symm
    clear hgt hn
    go_wp2_with fail
    rw [HN.out]
    refine (HM.out _).mono ?_
    rintro e w3 ⟨rfl, h3⟩
    have HB3 := Lib.hid ((HB2.out _ _).trans (h3.mono (HB2.out _ _).size))
    clear h3
    go_wp2_with fail
    go_returns
    exact ⟨rfl, HB3.out⟩

/-- How long a node waits: turn, left, top. -/
theorem eagain_any (w : World) (t l : Int) : Calls Tryz.prog 73 #[.agg #[.int .i64 t, .int .i64 l]] w fun e w' => e = .returned (.agg #[.int .i64 t, .int .i64 t]) ∧ Below w.heap.size w w' := by
  have hb := Lib.hid ((below_lit w (.cells #[.int .i64 t, .int .i64 l] 138)).alloc (by simp) (.cells #[.int .i64 t, .int .i64 t] 138))
  go_enter Tryz.func73, Tryz.ntmps73
  go_wp2_with fail
  go_returns
  exact ⟨rfl, hb.out⟩
def obEl (b : Nat) (t l top : Int) : Ob := obBlk b (.cells #[.int .i64 t, .int .i64 l, .int .u64 top] 140)
section
variable {W w w' : World} {os : List Ob}
theorem SepW.elNew (h : SepW W w os) {at' p : Int} (h0 : 0 ≤ at') (h1 : at' < 32) (h2 : 1 ≤ p) (h3 : p ≤ 1000) : Calls Tryz.prog 59 #[.int .i64 at', .int .i64 p] w fun e w' => ∃ b, e = .returned (.tuple #[.pointer (some ⟨b, 0, none⟩), .int .i64 0]) ∧ SepW W w' (obEl b (p * (at' + 1)) (p * (at' + 1)) 0 :: os) := by
  have d1 : decide (at' < 0) = false := decide_eq_false (by omega)
  have d2 : decide (32 ≤ at') = false := decide_eq_false (by omega)
  have d3 : decide (p < 1) = false := decide_eq_false (by omega)
  have d4 : decide (1000 < p) = false := decide_eq_false (by omega)
  have hm : 0 ≤ p * (at' + 1) := Int.mul_nonneg (by omega) (by omega)
  have hm2 : p * (at' + 1) ≤ 1000 * 32 := Int.mul_le_mul (by omega) (by omega) (by omega) (by omega)
  have w1 : IntKind.i64.wrap (at' + 1) = at' + 1 := IntWalk.i64_in _ (by constructor <;> omega)
  have w2 : IntKind.i64.wrap (p * (at' + 1)) = p * (at' + 1) := IntWalk.i64_in _ (by constructor <;> omega)
  have H := Lib.hid h
  clear h
  go_enter Tryz.func59, Tryz.ntmps59
  go_wp2_with fail
  refine (eagain_any w _ _).mono ?_
  rintro e w3 ⟨rfl, h3⟩
  have H3 := Lib.hid (H.out.step h3)
  clear h3
  go_wp2_with fail
  go_returns
  exact ⟨_, rfl, H3.out.newBlk _ _⟩
theorem SepW.elSet (h : SepW W w os) (i : Nat) {b : Nat} {t l top : Int} (hi : os[i]? = some (obEl b t l top)) (t' l' : Int) : SepW W ((w.setCell ⟨b, 0, none⟩ (.int .i64 t')).setCell ⟨b, 1, none⟩ (.int .i64 l')) (os.set i (obEl b t' l' top)) := by
  have hb : w.heap[b]? = some (.cells #[.int .i64 t, .int .i64 l, .int .u64 top] 140 (0, 0)) := h.get i hi
  have b1 := heap_setCell_same w b 0 _ _ (.int .i64 t') hb
  have b2 := heap_setCell_same _ b 1 _ _ (.int .i64 l') b1
  exact h.set i hi (((Keep.refl (fun q => q = b) w).setCell (p := ⟨b, 0, none⟩) (Or.inl rfl) _).setCell (p := ⟨b, 1, none⟩) (Or.inl rfl) _) (obBlk_good ..) (by simpa [obEl, obBlk] using b2) (fun k hk => Or.inl hk)
theorem SepW.elTop (h : SepW W w os) (i : Nat) {b : Nat} {t l top : Int} (hi : os[i]? = some (obEl b t l top)) (u : Int) : SepW W (w.setCell ⟨b, 2, none⟩ (.int .u64 u)) (os.set i (obEl b t l u)) := h.blkSet i hi 2 (.int .u64 u)
theorem SepW.elCell (h : SepW W w os) (i : Nat) {b : Nat} {t l top : Int} (hi : os[i]? = some (obEl b t l top)) : w.cell? ⟨b, 0, none⟩ = some (.int .i64 t) ∧ w.cell? ⟨b, 1, none⟩ = some (.int .i64 l) ∧ w.cell? ⟨b, 2, none⟩ = some (.int .u64 top) ∧
    w.frozen? ⟨b, 0, none⟩ = false ∧ w.frozen? ⟨b, 1, none⟩ = false ∧ w.frozen? ⟨b, 2, none⟩ = false := by
  have hb : w.heap[b]? = some (.cells #[.int .i64 t, .int .i64 l, .int .u64 top] 140 (0, 0)) := h.get i hi
  simp [World.cell?, World.frozen?, hb]
theorem set_at {α : Type} {l : List α} {i : Nat} {a : α} (h : l[i]? = some a) (b : α) : (l.set i b)[i]? = some b := List.getElem?_set_self (List.getElem?_eq_some_iff.1 h).1
theorem SepW.elTick (h : SepW W w os) (i : Nat) {b : Nat} {t m top : Int} (hi : os[i]? = some (obEl b t (m + 1) top)) (h0 : 0 ≤ m) (h1 : m ≤ 100000) : Calls Tryz.prog 39 #[.pointer (some ⟨b, 0, none⟩)] w fun e w' => e = .returned (.bool (decide (m = 0))) ∧ SepW W w' (os.set i (obEl b t (if m = 0 then t else m) top)) := by
  obtain ⟨c0, c1, c2, f0, f1, f2⟩ := h.elCell i hi
  have hs1 := h.blkSet i hi 1 (.int .i64 m)
  have w1 : IntKind.i64.wrap (m + 1 - 1) = m := by rw [Int.add_sub_cancel]; exact IntWalk.i64_in _ (by constructor <;> omega)
  have H1 : Hid (SepW W (w.setCell ⟨b, 1, none⟩ (.int .i64 m)) (os.set i (obEl b t m top))) := Lib.hid hs1
  have HI : Hid ((os.set i (obEl b t m top))[i]? = some (obEl b t m top)) := Lib.hid (set_at hi _)
  clear h hs1 hi
  go_enter Tryz.func39, Tryz.ntmps39
  go_wp2_with fail
  clear c0 c1 c2 f0 f1 f2 w1
  generalize w.setCell ⟨b, 1, none⟩ (.int .i64 m) = W1 at *
  obtain ⟨c0, c1, c2, f0, f1, f2⟩ := H1.out.elCell i HI.out
  by_cases hz : m = 0
  · subst hz
    go_quiet (fail)
    have HS2 := Lib.hid (H1.out.drewN nq)
    clear c0 c1 c2 f0 f1 f2 H1
    generalize W1.drewN nq = W2 at *
    obtain ⟨c0, c1, c2, f0, f1, f2⟩ := HS2.out.elCell i HI.out
    go_wp2_with fail
    refine (eagain_any W2 _ _).mono ?_
    rintro e w3 ⟨rfl, h3⟩
    have HS3 := Lib.hid (HS2.out.step h3)
    have HS4 := Lib.hid (HS3.out.elSet i HI.out t t)
    clear c0 c1 c2 f0 f1 f2 h3
    obtain ⟨c0, c1, c2, f0, f1, f2⟩ := HS3.out.elCell i HI.out
    go_wp2_with fail
    go_ret
    refine ⟨rfl, ?_⟩
    have := HS4.out
    rw [List.set_set] at this
    exact this
  · have hd : decide (m = 0) = false := decide_eq_false hz
    have he : (m == 0) = false := beq_eq_false_iff_ne.2 hz
    have HZ := Lib.hid hz
    clear hz
    go_quiet (fail)
    have HS2 := Lib.hid (H1.out.drewN nq)
    clear c0 c1 c2 f0 f1 f2 H1
    generalize W1.drewN nq = W2 at *
    go_wp2_with fail
    go_ret
    exact ⟨rfl, HS2.out⟩
theorem SepW.elHeardNo (h : SepW W w os) (i : Nat) {b : Nat} {t l top : Int} (hi : os[i]? = some (obEl b t l top)) {x : Int} (hx : x < top) : Calls Tryz.prog 46 #[.pointer (some ⟨b, 0, none⟩), .int .u64 x] w fun e w' => e = .returned (.bool false) ∧ w = w' := by
  obtain ⟨c0, c1, c2, f0, f1, f2⟩ := h.elCell i hi
  have hd : decide (x < top) = true := decide_eq_true hx
  clear h hi
  go_enter Tryz.func46, Tryz.ntmps46
  go_wp2_with fail
  go_ret
  exact ⟨rfl, rfl⟩
theorem SepW.elHeard (h : SepW W w os) (i : Nat) {b : Nat} {t l top : Int} (hi : os[i]? = some (obEl b t l top)) {x : Int} (hx : top ≤ x) : Calls Tryz.prog 46 #[.pointer (some ⟨b, 0, none⟩), .int .u64 x] w fun e w' => e = .returned (.bool true) ∧ SepW W w' (os.set i (obEl b t t x)) := by
  obtain ⟨c0, c1, c2, f0, f1, f2⟩ := h.elCell i hi
  have hd : decide (x < top) = false := decide_eq_false (by omega)
  have HS := Lib.hid h
  have HI := Lib.hid hi
  clear h hi hx
  go_enter Tryz.func46, Tryz.ntmps46
  go_wp2_with fail
  refine (eagain_any w _ _).mono ?_
  rintro e w3 ⟨rfl, h3⟩
  have HS3 := Lib.hid (HS.out.step h3)
  have HS4 := Lib.hid ((HS3.out.elTop i HI.out x).elSet i (set_at HI.out _) t t)
  clear c0 c1 c2 f0 f1 f2 h3
  obtain ⟨c0, c1, c2, f0, f1, f2⟩ := HS3.out.elCell i HI.out
  go_wp2_with fail
  go_ret
  refine ⟨rfl, ?_⟩
  have := HS4.out
  rw [List.set_set] at this
  exact this
theorem SepW.elTopIs (h : SepW W w os) (i : Nat) {b : Nat} {t l top : Int} (hi : os[i]? = some (obEl b t l top)) : Calls Tryz.prog 41 #[.pointer (some ⟨b, 0, none⟩)] w fun e w' => e = .returned (.int .u64 top) ∧ w = w' := by
  obtain ⟨c0, c1, c2, f0, f1, f2⟩ := h.elCell i hi
  clear h hi
  go_enter Tryz.func41, Tryz.ntmps41
  go_wp2_with fail
  go_ret
  exact ⟨rfl, rfl⟩
end
end Go.Proofs.YtgmdedkingampaaGreat
