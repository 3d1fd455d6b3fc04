/-
  The document's leader: Promise, one that is noted.
-/
import Derived.Test.YtjdjfhioobhcjaaRlG
import Derived.Test.YtjdjfhioobhcjaaRlL
import Derived.Deep.DeepCutAuto
namespace Go.Proofs.Ytjdjfhioobhcjaa
open Go.ChangeShapes Go.WideShapes Go.ChangeAt Go.RowKit Go.Maps Go.Shelf
set_option maxRecDepth 100000
set_option linter.unusedVariables false
set_option linter.unusedSimpArgs false

set_option maxHeartbeats 4000000 in
theorem rprom_no {S : Nat → Prop} {w : World} {R : RL} {pv kv ov lv : Value} (h : RLs S w R pv kv ov) {node b low : Int} (hno : ¬ (R.stage = 1 ∧ b = R.ballot ∧ 0 ≤ node ∧ node < R.many ∧ ¬ node ∈ R.prom)) : Calls Try.prog 34 #[rlV R pv kv ov, .int .i64 node, .int .u64 b, .int .u64 low, lv] w fun e w' => e = .returned (.tuple #[rlV R pv kv ov, .slice none 0 0, .bool false]) ∧ Below w.heap.size w w' := by
  obtain ⟨po, pc, ko, kc, oo, oc, rfl, rfl, rfl, a1, a2, b1, b2, c1, c2⟩ := h.forms
  have H := Lib.hid h
  unfold rlV
  obtain ⟨many, stage, ballot, first, next, prom, kn, op⟩ := R
  simp only at *
  clear h
  go_enter Try.func34, Try.ntmps34
  by_cases q1 : stage = 1
  · subst q1
    have d1 : ((1 : Int) != 1) = false := by decide
    by_cases q2 : b = ballot
    · subst q2
      have d2 : (b != b) = false := by simp
      by_cases q3 : node < 0
      · clear hno
        go_wp2_with fail
        obtain ⟨k0, k1, k2, hB⟩ := two_new w (.cells #[.int .i64 many, .int .i64 1, .int .u64 b, .int .u64 first, .int .u64 next, .slice po prom.length pc, .slice ko kn.length kc, .slice oo op.length oc] 66) (.cells #[.int .i64 many, .int .i64 1, .int .u64 b, .int .u64 first, .int .u64 next, .slice po prom.length pc, .slice ko kn.length kc, .slice oo op.length oc] 66)
        have HB := Lib.hid hB
        generalize (w.alloc (.cells #[.int .i64 many, .int .i64 1, .int .u64 b, .int .u64 first, .int .u64 next, .slice po prom.length pc, .slice ko kn.length kc, .slice oo op.length oc] 66)).alloc (.cells #[.int .i64 many, .int .i64 1, .int .u64 b, .int .u64 first, .int .u64 next, .slice po prom.length pc, .slice ko kn.length kc, .slice oo op.length oc] 66) = W4 at *
        obtain ⟨s0, s1, s2, s3, s4, s5, s6, s7⟩ := cells8 k1
        refine bodyPost_ret (v := .tuple #[.agg #[.int .i64 many, .int .i64 1, .int .u64 b, .int .u64 first, .int .u64 next, .slice po prom.length pc, .slice ko kn.length kc, .slice oo op.length oc], .slice none 0 0, .bool false]) (by simp [results, Try.results34, go_sem, s0, s1, s2, s3, s4, s5, s6, s7]) rfl ?_
        exact ⟨rfl, HB.out⟩
      · have d3 : decide (node < 0) = false := decide_eq_false q3
        by_cases q4 : many ≤ node
        · clear hno q3
          go_wp2_with fail
          obtain ⟨k0, k1, k2, hB⟩ := two_new w (.cells #[.int .i64 many, .int .i64 1, .int .u64 b, .int .u64 first, .int .u64 next, .slice po prom.length pc, .slice ko kn.length kc, .slice oo op.length oc] 66) (.cells #[.int .i64 many, .int .i64 1, .int .u64 b, .int .u64 first, .int .u64 next, .slice po prom.length pc, .slice ko kn.length kc, .slice oo op.length oc] 66)
          have HB := Lib.hid hB
          generalize (w.alloc (.cells #[.int .i64 many, .int .i64 1, .int .u64 b, .int .u64 first, .int .u64 next, .slice po prom.length pc, .slice ko kn.length kc, .slice oo op.length oc] 66)).alloc (.cells #[.int .i64 many, .int .i64 1, .int .u64 b, .int .u64 first, .int .u64 next, .slice po prom.length pc, .slice ko kn.length kc, .slice oo op.length oc] 66) = W4 at *
          obtain ⟨s0, s1, s2, s3, s4, s5, s6, s7⟩ := cells8 k1
          refine bodyPost_ret (v := .tuple #[.agg #[.int .i64 many, .int .i64 1, .int .u64 b, .int .u64 first, .int .u64 next, .slice po prom.length pc, .slice ko kn.length kc, .slice oo op.length oc], .slice none 0 0, .bool false]) (by simp [results, Try.results34, go_sem, s0, s1, s2, s3, s4, s5, s6, s7]) rfl ?_
          exact ⟨rfl, HB.out⟩
        · have d4 : decide (many ≤ node) = false := decide_eq_false q4
          have hin : decide (node ∈ prom) = true := decide_eq_true (by
            by_cases hh : node ∈ prom
            · exact hh
            · exact absurd ⟨rfl, rfl, by omega, by omega, hh⟩ hno)
          have hp := H.out.p
          have HP : Hid (SlR w (.slice po prom.length pc) (i64s prom)) := Lib.hid hp
          clear hp hno q3 q4
          go_wp2_with fail
          refine (rin_any node (HP.out.below (two_new w (.cells #[.int .i64 many, .int .i64 1, .int .u64 b, .int .u64 first, .int .u64 next, .slice po prom.length pc, .slice ko kn.length kc, .slice oo op.length oc] 66) (.cells #[.int .i64 0, .int .i64 0, .int .u64 0, .int .u64 0, .int .u64 0, .slice none 0 0, .slice none 0 0, .slice none 0 0] 66)).2.2.2 (Nat.le_refl _))).mono ?_
          rintro e w5 ⟨rfl, rfl⟩
          rw [hin]
          clear hin
          go_wp2_with fail
          obtain ⟨k0, k1, k2, hB⟩ := two_new w (.cells #[.int .i64 many, .int .i64 1, .int .u64 b, .int .u64 first, .int .u64 next, .slice po prom.length pc, .slice ko kn.length kc, .slice oo op.length oc] 66) (.cells #[.int .i64 many, .int .i64 1, .int .u64 b, .int .u64 first, .int .u64 next, .slice po prom.length pc, .slice ko kn.length kc, .slice oo op.length oc] 66)
          have HB := Lib.hid hB
          generalize (w.alloc (.cells #[.int .i64 many, .int .i64 1, .int .u64 b, .int .u64 first, .int .u64 next, .slice po prom.length pc, .slice ko kn.length kc, .slice oo op.length oc] 66)).alloc (.cells #[.int .i64 many, .int .i64 1, .int .u64 b, .int .u64 first, .int .u64 next, .slice po prom.length pc, .slice ko kn.length kc, .slice oo op.length oc] 66) = W4 at *
          obtain ⟨s0, s1, s2, s3, s4, s5, s6, s7⟩ := cells8 k1
          refine bodyPost_ret (v := .tuple #[.agg #[.int .i64 many, .int .i64 1, .int .u64 b, .int .u64 first, .int .u64 next, .slice po prom.length pc, .slice ko kn.length kc, .slice oo op.length oc], .slice none 0 0, .bool false]) (by simp [results, Try.results34, go_sem, s0, s1, s2, s3, s4, s5, s6, s7]) rfl ?_
          exact ⟨rfl, HB.out⟩
    · have d2 : (b != ballot) = true := by simpa using q2
      clear hno q2
      go_wp2_with fail
      obtain ⟨k0, k1, k2, hB⟩ := two_new w (.cells #[.int .i64 many, .int .i64 1, .int .u64 ballot, .int .u64 first, .int .u64 next, .slice po prom.length pc, .slice ko kn.length kc, .slice oo op.length oc] 66) (.cells #[.int .i64 many, .int .i64 1, .int .u64 ballot, .int .u64 first, .int .u64 next, .slice po prom.length pc, .slice ko kn.length kc, .slice oo op.length oc] 66)
      have HB := Lib.hid hB
      generalize (w.alloc (.cells #[.int .i64 many, .int .i64 1, .int .u64 ballot, .int .u64 first, .int .u64 next, .slice po prom.length pc, .slice ko kn.length kc, .slice oo op.length oc] 66)).alloc (.cells #[.int .i64 many, .int .i64 1, .int .u64 ballot, .int .u64 first, .int .u64 next, .slice po prom.length pc, .slice ko kn.length kc, .slice oo op.length oc] 66) = W4 at *
      obtain ⟨s0, s1, s2, s3, s4, s5, s6, s7⟩ := cells8 k1
      refine bodyPost_ret (v := .tuple #[.agg #[.int .i64 many, .int .i64 1, .int .u64 ballot, .int .u64 first, .int .u64 next, .slice po prom.length pc, .slice ko kn.length kc, .slice oo op.length oc], .slice none 0 0, .bool false]) (by simp [results, Try.results34, go_sem, s0, s1, s2, s3, s4, s5, s6, s7]) rfl ?_
      exact ⟨rfl, HB.out⟩
  · have d1 : (stage != 1) = true := by simpa using q1
    clear hno q1
    go_wp2_with fail
    obtain ⟨k0, k1, k2, hB⟩ := two_new w (.cells #[.int .i64 many, .int .i64 stage, .int .u64 ballot, .int .u64 first, .int .u64 next, .slice po prom.length pc, .slice ko kn.length kc, .slice oo op.length oc] 66) (.cells #[.int .i64 many, .int .i64 stage, .int .u64 ballot, .int .u64 first, .int .u64 next, .slice po prom.length pc, .slice ko kn.length kc, .slice oo op.length oc] 66)
    have HB := Lib.hid hB
    generalize (w.alloc (.cells #[.int .i64 many, .int .i64 stage, .int .u64 ballot, .int .u64 first, .int .u64 next, .slice po prom.length pc, .slice ko kn.length kc, .slice oo op.length oc] 66)).alloc (.cells #[.int .i64 many, .int .i64 stage, .int .u64 ballot, .int .u64 first, .int .u64 next, .slice po prom.length pc, .slice ko kn.length kc, .slice oo op.length oc] 66) = W4 at *
    obtain ⟨s0, s1, s2, s3, s4, s5, s6, s7⟩ := cells8 k1
    refine bodyPost_ret (v := .tuple #[.agg #[.int .i64 many, .int .i64 stage, .int .u64 ballot, .int .u64 first, .int .u64 next, .slice po prom.length pc, .slice ko kn.length kc, .slice oo op.length oc], .slice none 0 0, .bool false]) (by simp [results, Try.results34, go_sem, s0, s1, s2, s3, s4, s5, s6, s7]) rfl ?_
    exact ⟨rfl, HB.out⟩
end Go.Proofs.Ytjdjfhioobhcjaa

namespace Go.Proofs.Ytjdjfhioobhcjaa
open Go.ChangeShapes Go.WideShapes Go.ChangeAt Go.RowKit Go.Maps Go.Shelf
set_option maxRecDepth 100000
set_option linter.unusedVariables false
set_option linter.unusedSimpArgs false

theorem rfC_set (L : List Vt) (k : Nat) (v : Vt) : rfC (L.set k v) = (((rfC L).set (k * 3) (.int .u64 v.slot)).set (k * 3 + 1) (.int .u64 v.ballot)).set (k * 3 + 2) (.string (strB v.val)) := by
  induction L generalizing k with
  | nil => simp [rfC]
  | cons x r ih =>
    cases k with
    | zero => simp [rfC]
    | succ k =>
      have e : ∀ (y : Vt) (s : List Vt), rfC (y :: s) = .int .u64 y.slot :: .int .u64 y.ballot :: .string (strB y.val) :: rfC s := fun y s => by simp [rfC]
      rw [List.set_cons_succ, e, e, ih, show (k + 1) * 3 = k * 3 + 1 + 1 + 1 by omega]
      simp only [List.set_cons_succ, show k * 3 + 1 + 1 + 1 + 1 = (k * 3 + 1) + 1 + 1 + 1 by omega, show k * 3 + 1 + 1 + 1 + 2 = (k * 3 + 2) + 1 + 1 + 1 by omega]
theorem SepW.rowSet {W w : World} {os : List Ob} (h : SepW W w os) (i : Nat) {e : TypeId} {z n g cap : Nat} {xs : List Value} (hi : os[i]? = some (obRow (.slice (some ⟨g, 0, none⟩) n cap) e z n xs)) (j : Nat) (u : Value) :
    SepW W (w.setCell ⟨g, j, none⟩ u) (os.set i (obRow (.slice (some ⟨g, 0, none⟩) n cap) e z n (xs.set j u))) := by
  have ho : w.ownsRow 0 e z (.slice (some ⟨g, 0, none⟩) n cap) n xs := h.get i hi
  exact h.set i hi ((Keep.refl (fun q => (Value.slice (some ⟨g, 0, none⟩) n cap).ownBlock = some q) w).setCell (p := ⟨g, j, none⟩) (Or.inl rfl) u) (obRow_good ..) (ho.stored j u).1 (fun k hk => Or.inl hk)
theorem RfL.flat {w : World} {v : Value} {hs : List Vt} (h : RfL w v hs) : FlR w v hs.length (rfC hs) := by
  obtain ⟨ao, c, rfl, h1, h2, hx⟩ := h
  refine ⟨ao, c, rfl, h1, h2, fun i u hi => ?_⟩
  have hlt : i < (rfC hs).length := (List.getElem?_eq_some_iff.1 hi).1
  rw [rfC_len] at hlt
  have hk : i / 3 < hs.length := by omega
  obtain ⟨a, rfl, c0, c1, c2⟩ := hx (i / 3) _ (List.getElem?_eq_getElem hk)
  obtain ⟨r0, r1, r2⟩ := rfC_at (List.getElem?_eq_getElem hk)
  refine ⟨a, rfl, ?_⟩
  rcases (by omega : i % 3 = 0 ∨ i % 3 = 1 ∨ i % 3 = 2) with e | e | e
  · have ei : i / 3 * 3 = i := by omega
    rw [ei] at c0 r0
    rw [r0] at hi; cases hi; exact c0
  · have ei : i / 3 * 3 + 1 = i := by omega
    rw [ei] at r1
    rw [r1] at hi; cases hi
    rw [add_more _ _ _ (by omega), ei] at c1; exact c1
  · have ei : i / 3 * 3 + 2 = i := by omega
    rw [ei] at r2
    rw [r2] at hi; cases hi
    rw [add_more _ _ _ (by omega), ei] at c2; exact c2
theorem ownsRow_formF {w : World} {base size n : Nat} {e : TypeId} {v : Value} {xs : List Value} (h : w.ownsRow base e size v n xs) (hn : 0 < n) : ∃ g cap, v = .slice (some ⟨g, 0, none⟩) n cap := by
  rcases h.2 with ⟨_, h0⟩ | ⟨g, cap, _, hv, _⟩
  · omega
  · exact ⟨g, cap, hv⟩
theorem ownsRow_caps {w : World} {base size n cap : Nat} {e : TypeId} {xs : List Value} {a : Addr} (h : w.ownsRow base e size (.slice (some a) n cap) n xs) : n ≤ cap ∧ cap ≤ 9223372036854775807 := by
  rcases h.2 with ⟨h0, _⟩ | ⟨g, c, cur, hv, _, _, h1, h2, _⟩
  · cases h0
  · cases hv
    unfold maxLen at h2
    exact ⟨h1, by omega⟩
theorem ownsRow_base {w : World} {base base' size n : Nat} {e : TypeId} {v : Value} {xs : List Value} (h : w.ownsRow base e size v n xs) (hb : ∀ g, v.ownBlock = some g → base' ≤ g) : w.ownsRow base' e size v n xs := by
  rcases h.2 with h0 | ⟨g, c, cur, rfl, _, h1⟩
  · exact ⟨h.1, Or.inl h0⟩
  · exact ⟨h.1, Or.inr ⟨g, c, cur, rfl, hb g rfl, h1⟩⟩
/-- Proposals for which nobody voted, as cells. -/
def oC (L : List Vt) : List Value := L.flatMap fun v => [.int .u64 v.slot, .int .u64 v.ballot, .string (strB v.val), .slice none 0 0]
theorem oC_snoc (L : List Vt) (v : Vt) : oC (L ++ [v]) = oC L ++ [.int .u64 v.slot, .int .u64 v.ballot, .string (strB v.val), .slice none 0 0] := by simp [oC]
theorem oC_ok (S : Nat → Prop) (w : World) (L : List Vt) : OC S w (oC L) (L.map fun v => ⟨v, []⟩) := by
  induction L with
  | nil => exact OC.nil S w
  | cons v r ih =>
    have e : oC (v :: r) = [.int .u64 v.slot, .int .u64 v.ballot, .string (strB v.val), .slice none 0 0] ++ oC r := by simp [oC]
    rw [e]
    exact (OC.single (o := ⟨v, []⟩) (SlR.nil w) (OwnS.nil S)).app ih
theorem rfC_one (L : List Vt) : ∀ u ∈ rfC L, u.oneCell' = true := by
  intro u hu
  unfold rfC at hu
  rw [List.mem_flatMap] at hu
  obtain ⟨s, _, hs⟩ := hu
  simp at hs
  rcases hs with rfl | rfl | rfl <;> rfl
def PmPost (S : Nat → Prop) (w : World) (R1 : RL) (ov : Value) (e : Ending) (w' : World) : Prop :=
  ((R1.prom.length : Int) ≤ R1.many / 2 ∧ ∃ pv' kv', e = .returned (.tuple #[rlV R1 pv' kv' ov, .slice none 0 0, .bool false]) ∧ RLs (New S w w') w' R1 pv' kv' ov ∧ Below w.heap.size w w') ∨
  (R1.many / 2 < (R1.prom.length : Int) ∧ farR R1.first R1.kn ∧ ∃ pv' kv', e = .returned (.tuple #[rlV (rStop R1) pv' kv' (.slice none 0 0), .slice none 0 0, .bool false]) ∧ RLs (New S w w') w' (rStop R1) pv' kv' (.slice none 0 0) ∧ Below w.heap.size w w') ∨
  (R1.many / 2 < (R1.prom.length : Int) ∧ ¬ farR R1.first R1.kn ∧ ∃ (n : Nat) (en : Int) (pv' kv' ov' : Value) (o : Option Addr) (c : Nat), en = endK R1.first R1.kn R1.kn.length ∧ en = R1.first + (n : Int) ∧ e = .returned (.tuple #[rlV (rLead R1 en (outL R1.first R1.ballot R1.kn n)) pv' kv' ov', .slice o n c, .bool true]) ∧
    RLs (New S w w') w' (rLead R1 en (outL R1.first R1.ballot R1.kn n)) pv' kv' ov' ∧ w'.ownsRow w.heap.size 56 3 (.slice o n c) n (rfC (outL R1.first R1.ballot R1.kn n)) ∧ Below w.heap.size w w')
set_option maxHeartbeats 8000000 in
theorem rprom_ok {S : Nat → Prop} {w : World} {R : RL} {pv kv ov lv : Value} {ls : List Vt} (h : RLs S w R pv kv ov) {node b low : Int} (hyes : R.stage = 1 ∧ b = R.ballot ∧ 0 ≤ node ∧ node < R.many ∧ ¬ node ∈ R.prom) (hv : RfL w lv ls) (hpl : R.prom.length ≤ 1000) (hkl : R.kn.length ≤ 100000) (hll : ls.length ≤ 1000) (hm : 1 ≤ R.many ∧ R.many ≤ 32)
    (hu : U1 R.first ∧ U1 low ∧ (∀ v ∈ R.kn, U1 v.slot) ∧ ∀ v ∈ ls, U1 v.slot) :
    Calls Try.prog 34 #[rlV R pv kv ov, .int .i64 node, .int .u64 b, .int .u64 low, lv] w (PmPost S w (rProm R node low ls) ov) := by
  obtain ⟨po, pc, ko, kc, oo, oc, rfl, rfl, rfl, a1, a2, b1, b2, c1, c2⟩ := h.forms
  have H := Lib.hid h
  unfold rlV
  obtain ⟨many, stage, ballot, first, next, prom, kn, op⟩ := R
  simp only at *
  clear h
  obtain ⟨q1, rfl, q3, q4, q5⟩ := hyes
  subst q1
  have d1 : ((1 : Int) != 1) = false := by decide
  have d2 : (b != b) = false := by simp
  have d3 : decide (node < 0) = false := decide_eq_false (by omega)
  have d4 : decide (many ≤ node) = false := decide_eq_false (by omega)
  have hin : decide (node ∈ prom) = false := decide_eq_false q5
  have HP : Hid (SlR w (.slice po prom.length pc) (i64s prom)) := Lib.hid H.out.p
  have HK : Hid (RfL w (.slice ko kn.length kc) kn) := Lib.hid H.out.k
  have HIn := Lib.hid hin
  obtain ⟨j0, hj, hy0, hy1, hy2⟩ := info_parts Try.intInfo
  obtain ⟨l0, hl0, hlz0, hlz1, hlz2⟩ := info_parts Try.rvInfo
  have hw1 : ∀ u ∈ i64s prom, u.oneCell' = true := by intro u hu; unfold i64s at hu; obtain ⟨x, _, rfl⟩ := List.mem_map.1 hu; rfl
  have HW1 := Lib.hid hw1
  have hql : (i64s prom).length = prom.length := by simp [i64s]
  have HQl := Lib.hid hql
  clear hw1 hql hin q5
  go_enter Try.func34, Try.ntmps34
  obtain ⟨k0, k1, k2, hB0⟩ := two_new w (.cells #[.int .i64 many, .int .i64 1, .int .u64 b, .int .u64 first, .int .u64 next, .slice po prom.length pc, .slice ko kn.length kc, .slice oo op.length oc] 66) (.cells #[.int .i64 0, .int .i64 0, .int .u64 0, .int .u64 0, .int .u64 0, .slice none 0 0, .slice none 0 0, .slice none 0 0] 66)
  have hs0 := ((SepW.nil (Below.refl _ w)).newBlk #[.int .i64 many, .int .i64 1, .int .u64 b, .int .u64 first, .int .u64 next, .slice po prom.length pc, .slice ko kn.length kc, .slice oo op.length oc] 66).newBlk #[.int .i64 0, .int .i64 0, .int .u64 0, .int .u64 0, .int .u64 0, .slice none 0 0, .slice none 0 0, .slice none 0 0] 66
  have hsz1 : (w.alloc (.cells #[.int .i64 many, .int .i64 1, .int .u64 b, .int .u64 first, .int .u64 next, .slice po prom.length pc, .slice ko kn.length kc, .slice oo op.length oc] 66)).heap.size = w.heap.size + 1 := by simp
  rw [hsz1] at hs0
  have HS0 := Lib.hid hs0
  have HB0 := Lib.hid hB0
  clear hs0 hB0 k0 k1 k2 hsz1
  go_wp2_with fail
  refine (rin_any node (HP.out.below HB0.out (Nat.le_refl _))).mono ?_
  rintro e w0 ⟨rfl, hw0⟩
  rw [HIn.out]
  rw [hw0] at HS0 HB0
  clear hw0
  obtain ⟨e0, e1, e2, e3, e4, e5, e6, e7⟩ := cells8 (HS0.out.get 1 rfl : w0.heap[w.heap.size]? = some (.cells #[.int .i64 many, .int .i64 1, .int .u64 b, .int .u64 first, .int .u64 next, .slice po prom.length pc, .slice ko kn.length kc, .slice oo op.length oc] 66))
  go_upto_if 62 with (first
    | (at_builtin; (refine wpList_appSrc rfl (.tmp 50) (.tmp 52) 42 rfl w0.heap.size 3 j0 _ 8 Try.underlying42 hj hy0 hy1 hy2 rfl (by decide) rfl rfl (World.ownsRow_nil _ _ _ _) (HP.out.below HB0.out (Nat.le_refl _)) HW1.out (by rw [HQl.out]; omega) (Nat.le_refl _) ?_)
       intro v5 w5 hown5 hb5 hor5 hk5 hne5
       (rw [HQl.out, Nat.zero_add, List.nil_append] at hown5)
       obtain ⟨o5, c5, rfl, hc51, hc52⟩ := own_form hown5
       have HO5 := Lib.hid hown5
       have HB5 := Lib.hid hb5
       clear hown5 hb5 hor5 hk5 hne5)
    | (at_builtin; (refine wpList_appS rfl (.tmp 54) (.tmp 56) 42 rfl 0 3 j0 _ 1 8 Try.underlying42 hj hy0 hy1 hy2 rfl (by decide) (by decide) rfl rfl rfl rfl (HO5.out.weaken (Nat.zero_le _)) (by intro u hu; simp at hu; subst hu; rfl) (by omega) (Nat.zero_le _) ?_)
       intro g6 cap6 w6 hown6 hg6 hor6
       (have HS5 : Hid (SepW w w5 [obRow (.slice o5 prom.length c5) 3 1 prom.length (i64s prom), obBlk (w.heap.size + 1) (.cells #[.int .i64 0, .int .i64 0, .int .u64 0, .int .u64 0, .int .u64 0, .slice none 0 0, .slice none 0 0, .slice none 0 0] 66), obBlk w.heap.size (.cells #[.int .i64 many, .int .i64 1, .int .u64 b, .int .u64 first, .int .u64 next, .slice po prom.length pc, .slice ko kn.length kc, .slice oo op.length oc] 66)]) := Lib.hid (HS0.out.newRow HO5.out HB5.out))
       (have HS6 : Hid (SepW w w6 [obRow (.slice (some ⟨g6, 0, none⟩) (prom.length + 1) cap6) 3 1 (prom.length + 1) (i64s prom ++ [.int .i64 node]), obBlk (w.heap.size + 1) (.cells #[.int .i64 0, .int .i64 0, .int .u64 0, .int .u64 0, .int .u64 0, .slice none 0 0, .slice none 0 0, .slice none 0 0] 66), obBlk w.heap.size (.cells #[.int .i64 many, .int .i64 1, .int .u64 b, .int .u64 first, .int .u64 next, .slice po prom.length pc, .slice ko kn.length kc, .slice oo op.length oc] 66)]) := Lib.hid (HS5.out.rowApp 0 rfl hg6 hor6 hown6))
       clear e0 e1 e2 e3 e4 e5 e6 e7 HS5
       (obtain ⟨e0, e1, e2, e3, e4, e5, e6, e7⟩ := cells8 (HS6.out.get 2 rfl : w6.heap[w.heap.size]? = some (.cells #[.int .i64 many, .int .i64 1, .int .u64 b, .int .u64 first, .int .u64 next, .slice po prom.length pc, .slice ko kn.length kc, .slice oo op.length oc] 66)))
       (have pz : ∀ j, w6.frozen? ⟨w.heap.size, j, none⟩ = false := fun j => by have hh : w6.heap[w.heap.size]? = _ := HS6.out.get 2 rfl; simp [World.frozen?, hh])
       clear hown6 hg6 hor6)
    | fail)
  go_cut [13] (fun s13 wx => s13 = .slice o5 prom.length c5 ∧ SepW w wx [obRow (.slice (some ⟨g6, 0, none⟩) (prom.length + 1) cap6) 3 1 (prom.length + 1) (i64s prom ++ [.int .i64 node]), obBlk (w.heap.size + 1) (.cells #[.int .i64 0, .int .i64 0, .int .u64 0, .int .u64 0, .int .u64 0, .slice none 0 0, .slice none 0 0, .slice none 0 0] 66), obBlk w.heap.size (.cells #[.int .i64 many, .int .i64 1, .int .u64 b, .int .u64 (max first low), .int .u64 next, .slice (some ⟨g6, 0, none⟩) (prom.length + 1) cap6, .slice ko kn.length kc, .slice oo op.length oc] 66)])
  case first =>
    have hs7 := HS6.out.blkSet 2 rfl 5 (.slice (some ⟨g6, 0, none⟩) (prom.length + 1) cap6)
    simp only [List.set_cons_succ, List.set_cons_zero, List.setIfInBounds_toArray] at hs7
    by_cases hlow : first < low
    · have hmx : max first low = low := by omega
      have HS7 := Lib.hid (hs7.blkSet 2 rfl 3 (.int .u64 low))
      clear hs7
      go_wp2_with fail
      go_meet
      exact ⟨rfl, by rw [hmx]; have := HS7.out; simpa only [List.set_cons_succ, List.set_cons_zero, List.setIfInBounds_toArray] using this⟩
    · have hd : decide (first < low) = false := decide_eq_false hlow
      have hmx : max first low = first := by omega
      have HS7 := Lib.hid hs7
      clear hs7
      go_wp2_with fail
      go_meet
      exact ⟨rfl, by rw [hmx]; exact HS7.out⟩
  case rest =>
    obtain ⟨rfl, hs7⟩ := hcut
    have HS7 := Lib.hid hs7
    have HB7 := Lib.hid hs7.below
    clear hs7 HS6 HO5 HB5 HS0 HB0 pz e0 e1 e2 e3 e4 e5 e6 e7
    obtain ⟨e0, e1, e2, e3, e4, e5, e6, e7⟩ := cells8 (HS7.out.get 2 rfl : wc.heap[w.heap.size]? = some (.cells #[.int .i64 many, .int .i64 1, .int .u64 b, .int .u64 (max first low), .int .u64 next, .slice (some ⟨g6, 0, none⟩) (prom.length + 1) cap6, .slice ko kn.length kc, .slice oo op.length oc] 66))
    go_wp2_with (first
      | (at_builtin; (refine wpList_appFl rfl (.tmp 65) (.tmp 67) 46 rfl wc.heap.size 56 l0 _ 3 32 Try.underlying46 hl0 hlz0 hlz1 hlz2 rfl (by decide) (by decide) rfl rfl (World.ownsRow_nil _ _ _ _) (HK.out.flat.below HB7.out (Nat.le_refl _)) (rfC_len kn) (rfC_one kn) (by omega) (Nat.le_refl _) ?_)
         intro v8 w8 hown8 hb8 hor8 hk8
         (rw [Nat.zero_add, List.nil_append] at hown8)
         obtain ⟨o8, c8, rfl, hc81, hc82⟩ := own_form hown8
         have HO8 := Lib.hid hown8
         have HB8 := Lib.hid hb8
         clear hown8 hb8 hor8 hk8)
      | fail)
    have HS8 : Hid (SepW w w8 [obRow (.slice o8 kn.length c8) 56 3 kn.length (rfC kn), obRow (.slice (some ⟨g6, 0, none⟩) (prom.length + 1) cap6) 3 1 (prom.length + 1) (i64s prom ++ [.int .i64 node]), obBlk (w.heap.size + 1) (.cells #[.int .i64 0, .int .i64 0, .int .u64 0, .int .u64 0, .int .u64 0, .slice none 0 0, .slice none 0 0, .slice none 0 0] 66), obBlk w.heap.size (.cells #[.int .i64 many, .int .i64 1, .int .u64 b, .int .u64 (max first low), .int .u64 next, .slice (some ⟨g6, 0, none⟩) (prom.length + 1) cap6, .slice ko kn.length kc, .slice oo op.length oc] 66)]) := Lib.hid (HS7.out.newRow HO8.out HB8.out)
    have HV := Lib.hid hv
    obtain ⟨lo, lc, rfl, hlc1, hlc2, _⟩ := hv
    have HKn := Lib.hid (foldAdd_len ls kn)
    clear HO8 HB8 HS7 HB7 e0 e1 e2 e3 e4 e5 e6 e7
    go_loopw [15, 14] (fun i kv wr => ∃ (k : Nat) (o : Option Addr) (c : Nat), k ≤ ls.length ∧ i = .int .i64 k ∧ kv = .slice o ((ls.take k).foldl rAdd kn).length c ∧ SepW w wr [obRow (.slice o ((ls.take k).foldl rAdd kn).length c) 56 3 ((ls.take k).foldl rAdd kn).length (rfC ((ls.take k).foldl rAdd kn)), obRow (.slice (some ⟨g6, 0, none⟩) (prom.length + 1) cap6) 3 1 (prom.length + 1) (i64s prom ++ [.int .i64 node]), obBlk (w.heap.size + 1) (.cells #[.int .i64 0, .int .i64 0, .int .u64 0, .int .u64 0, .int .u64 0, .slice none 0 0, .slice none 0 0, .slice none 0 0] 66), obBlk w.heap.size (.cells #[.int .i64 many, .int .i64 1, .int .u64 b, .int .u64 (max first low), .int .u64 next, .slice (some ⟨g6, 0, none⟩) (prom.length + 1) cap6, .slice ko kn.length kc, .slice oo op.length oc] 66)]) (fun i _ _ => ls.length - (intOf i).toNat)
    case atStart => exact ⟨0, o8, c8, by omega, rfl, rfl, HS8.out⟩
    case round =>
      obtain ⟨k, o0, c0, hk, rfl, rfl, hsr⟩ := hrel
      have HSr := Lib.hid hsr
      obtain ⟨o0', c0', hh0, hc01, hc02⟩ := own_form (hsr.get 0 rfl : wr.ownsRow 0 56 3 (.slice o0 ((ls.take k).foldl rAdd kn).length c0) ((ls.take k).foldl rAdd kn).length (rfC ((ls.take k).foldl rAdd kn)))
      cases hh0
      clear hsr HS8
      have hkl1 := foldAdd_len (ls.take k) kn
      have hkl2 := List.length_take_le k ls
      by_cases hlt : k < ls.length
      · have hki : (k : Int) < (ls.length : Int) := by omega
        have hx := List.getElem?_eq_getElem hlt
        have hfs : (ls.take (k + 1)).foldl rAdd kn = rAdd ((ls.take k).foldl rAdd kn) ls[k] := by rw [List.take_succ_eq_append_getElem hlt, List.foldl_append]; rfl
        have HFs := Lib.hid hfs
        have HRf : Hid (RfL wr (.slice o0 ((ls.take k).foldl rAdd kn).length c0) ((ls.take k).foldl rAdd kn)) := Lib.hid (RfL.of_own (HSr.out.get 0 rfl : wr.ownsRow 0 56 3 (.slice o0 ((ls.take k).foldl rAdd kn).length c0) ((ls.take k).foldl rAdd kn).length (rfC ((ls.take k).foldl rAdd kn))))
        obtain ⟨_, _, hh, _, _, hvx⟩ := HV.out
        cases hh
        obtain ⟨va, rfl, x0, x1, x2⟩ := hvx k _ hx
        replace x0 := (HSr.out.below.cell (World.block_lt_of_cell? _ _ x0)).trans x0
        replace x1 := (HSr.out.below.cell (World.block_lt_of_cell? _ _ x1)).trans x1
        replace x2 := (HSr.out.below.cell (World.block_lt_of_cell? _ _ x2)).trans x2
        generalize ls[k] = q at *
        obtain ⟨qs, qb, qv⟩ := q
        try simp only at x0 x1 x2
        clear hvx hx hfs
        have hKl : ((ls.take k).foldl rAdd kn).length ≤ 200000 := by omega
        generalize (ls.take k).foldl rAdd kn = K at *
        go_wp2_with fail
        refine (rfind_any qs HRf.out).mono ?_
        rintro e w9 ⟨⟨i, rfl, hfi⟩, rfl⟩
        rcases hfi with ⟨rfl, hno⟩ | ⟨k0, o, rfl, hk0, hlk, hno⟩
        · have hr := rAdd_none (L := K) (v := ⟨qs, qb, qv⟩) hno
          have HR := Lib.hid hr
          clear hno hr
          go_wp2_with (first
            | (at_builtin; (refine wpList_appS rfl (.tmp 84) (.tmp 89) 46 rfl 0 56 l0 _ 3 32 Try.underlying46 hl0 hlz0 hlz1 hlz2 rfl (by decide) (by decide) rfl rfl rfl rfl (HSr.out.get 0 rfl) (by intro u hu; simp at hu; rcases hu with rfl | rfl | rfl <;> rfl) (by omega) (Nat.zero_le _) ?_)
               intro g8 cap8 w8 hown8 hg8 hor8
               have HO8 := Lib.hid hown8
               have HG8 := Lib.hid hg8
               have HOr8 := Lib.hid hor8
               clear hown8 hg8 hor8)
            | fail)
          have HS9 := Lib.hid (HSr.out.rowApp 0 rfl HG8.out HOr8.out HO8.out)
          go_roundw
          case rel => exact ⟨k + 1, _, _, by omega, by go_num, by rw [HFs.out, HR.out, List.length_append]; rfl, by rw [HFs.out, HR.out, List.length_append, rfC_snoc]; exact HS9.out⟩
          case measure => simp [intOf]; omega
        · have hos := look_slot hlk
          have hk0l : k0 < K.length := (List.getElem?_eq_some_iff.1 hk0).1
          have hr := rAdd_some (L := K) (v := ⟨qs, qb, qv⟩) hk0 hos.1 hno
          have HR := Lib.hid hr
          have hd0 : decide ((k0 : Int) < 0) = false := decide_eq_false (by omega)
          have hk0i : (k0 : Int) < (K.length : Int) := by omega
          obtain ⟨gk, ck, hfm⟩ := ownsRow_formF (HSr.out.get 0 rfl : wr.ownsRow 0 56 3 (.slice o0 K.length c0) K.length (rfC K)) (by omega)
          cases hfm
          obtain ⟨_, _, hh, _, _, hkx⟩ := HRf.out
          cases hh
          obtain ⟨ka, hka, y0, y1, y2⟩ := hkx k0 _ hk0
          cases hka
          rw [add_zero_off] at y0 y1 y2
          have fz : ∀ j, wr.frozen? ⟨gk, j, none⟩ = false := fun j => (HSr.out.get 0 rfl : wr.ownsRow 0 56 3 (.slice (some ⟨gk, 0, none⟩) K.length c0) K.length (rfC K)).frozenAt j
          have HK0 := Lib.hid hk0
          clear hno hr hkx hlk hos hk0
          obtain ⟨os_, ob_, ov_⟩ := o
          try simp only at y0 y1 y2
          simp only at HR
          by_cases hless : ob_ < qb
          · rw [if_pos hless] at HR
            go_wp2_with fail
            go_quiet (fail)
            go_wp2_with fail
            have hs9 := (((HSr.out.drewN nq).rowSet 0 rfl (k0 * 3) (.int .u64 qs)).rowSet 0 rfl (k0 * 3 + 1) (.int .u64 qb)).rowSet 0 rfl (k0 * 3 + 2) (.string (strB qv))
            have HS9 : Hid (SepW w _ [obRow (.slice (some ⟨gk, 0, none⟩) K.length c0) 56 3 K.length (rfC (K.set k0 ⟨qs, qb, qv⟩)), obRow (.slice (some ⟨g6, 0, none⟩) (prom.length + 1) cap6) 3 1 (prom.length + 1) (i64s prom ++ [.int .i64 node]), obBlk (w.heap.size + 1) (.cells #[.int .i64 0, .int .i64 0, .int .u64 0, .int .u64 0, .int .u64 0, .slice none 0 0, .slice none 0 0, .slice none 0 0] 66), obBlk w.heap.size (.cells #[.int .i64 many, .int .i64 1, .int .u64 b, .int .u64 (max first low), .int .u64 next, .slice (some ⟨g6, 0, none⟩) (prom.length + 1) cap6, .slice ko kn.length kc, .slice oo op.length oc] 66)]) := Lib.hid (by rw [rfC_set]; exact hs9)
            clear hs9 fz y0 y1 y2
            go_roundw
            case rel => exact ⟨k + 1, _, _, by omega, by go_num, by rw [HFs.out, HR.out, List.length_set], by rw [HFs.out, HR.out, List.length_set]; exact HS9.out⟩
            case measure => simp [intOf]; omega
          · have hld : decide (ob_ < qb) = false := decide_eq_false hless
            rw [if_neg hless] at HR
            clear hless
            go_wp2_with fail
            go_quiet (fail)
            go_wp2_with fail
            go_roundw
            case rel => exact ⟨k + 1, _, _, by omega, by go_num, by rw [HFs.out, HR.out], by rw [HFs.out, HR.out]; exact HSr.out.drewN _⟩
            case measure => simp [intOf]; omega
      · have hkl : k = ls.length := by omega
        subst hkl
        rw [List.take_length] at HSr hkl1 ⊢
        have hUK : ∀ v ∈ ls.foldl rAdd kn, U1 v.slot := fun v hv => by
          rcases foldAdd_mem hv with hv | hv
          · exact hu.2.2.2 v hv
          · exact hu.2.2.1 v hv
        have hUF : U1 (max first low) := by
          have h1 := hu.1
          have h2 := hu.2.1
          unfold U1 at *
          omega
        have HUK := Lib.hid hUK
        have HUF := Lib.hid hUF
        have hKl : (ls.foldl rAdd kn).length ≤ 200000 := by omega
        have hR1 : rProm ⟨many, 1, b, first, next, prom, kn, op⟩ node low ls = ⟨many, 1, b, max first low, next, prom ++ [node], ls.foldl rAdd kn, op⟩ := rfl
        have HR1 := Lib.hid hR1
        have htd : many.tdiv 2 = many / 2 := Int.tdiv_eq_ediv_of_nonneg (by omega)
        clear hu hUK hUF hR1 hlt hk hkl1 hkl2 HKn HV
        generalize ls.foldl rAdd kn = K at *
        generalize max first low = f at *
        obtain ⟨e0, e1, e2, e3, e4, e5, e6, e7⟩ := cells8 (HSr.out.get 3 rfl : wr.heap[w.heap.size]? = some (.cells #[.int .i64 many, .int .i64 1, .int .u64 b, .int .u64 f, .int .u64 next, .slice (some ⟨g6, 0, none⟩) (prom.length + 1) cap6, .slice ko kn.length kc, .slice oo op.length oc] 66))
        have pz : ∀ j, wr.frozen? ⟨w.heap.size, j, none⟩ = false := fun j => by have hh : wr.heap[w.heap.size]? = _ := HSr.out.get 3 rfl; simp [World.frozen?, hh]
        obtain ⟨r0, r1, r2, r3, r4, r5, r6, r7⟩ := cells8 (HSr.out.get 2 rfl : wr.heap[w.heap.size + 1]? = some (.cells #[.int .i64 0, .int .i64 0, .int .u64 0, .int .u64 0, .int .u64 0, .slice none 0 0, .slice none 0 0, .slice none 0 0] 66))
        have rz : ∀ j, wr.frozen? ⟨w.heap.size + 1, j, none⟩ = false := fun j => by have hh : wr.heap[w.heap.size + 1]? = _ := HSr.out.get 2 rfl; simp [World.frozen?, hh]
        have hs9 := HSr.out.blkSet 3 rfl 6 (.slice o0 K.length c0)
        simp only [List.set_cons_succ, List.set_cons_zero, List.setIfInBounds_toArray] at hs9
        have HS9 : Hid (SepW w (wr.setCell ⟨w.heap.size, 6, none⟩ (.slice o0 K.length c0)) [obRow (.slice o0 K.length c0) 56 3 K.length (rfC K), obRow (.slice (some ⟨g6, 0, none⟩) (prom.length + 1) cap6) 3 1 (prom.length + 1) (i64s prom ++ [.int .i64 node]), obBlk (w.heap.size + 1) (.cells #[.int .i64 0, .int .i64 0, .int .u64 0, .int .u64 0, .int .u64 0, .slice none 0 0, .slice none 0 0, .slice none 0 0] 66), obBlk w.heap.size (.cells #[.int .i64 many, .int .i64 1, .int .u64 b, .int .u64 f, .int .u64 next, .slice (some ⟨g6, 0, none⟩) (prom.length + 1) cap6, .slice o0 K.length c0, .slice oo op.length oc] 66)]) := Lib.hid hs9
        clear hs9
        have HRL : Hid (∀ w', SepW w w' (obRow (.slice o0 K.length c0) 56 3 K.length (rfC K) :: obRow (.slice (some ⟨g6, 0, none⟩) (prom.length + 1) cap6) 3 1 (prom.length + 1) (i64s prom ++ [.int .i64 node]) :: []) → RLs (New S w w') w' ⟨many, 1, b, f, next, prom ++ [node], K, op⟩ (.slice (some ⟨g6, 0, none⟩) (prom.length + 1) cap6) (.slice o0 K.length c0) (.slice oo op.length oc)) := Lib.hid (fun w' hs => by
          have hr0 : w'.ownsRow 0 56 3 (.slice o0 K.length c0) K.length (rfC K) := hs.get 0 rfl
          have hr1 : w'.ownsRow 0 3 1 (.slice (some ⟨g6, 0, none⟩) (prom.length + 1) cap6) (prom.length + 1) (i64s prom ++ [.int .i64 node]) := hs.get 1 rfl
          have hb := H.out.below hs.below
          refine ⟨?_, fun q hq => Or.inr ⟨hs.sep.base _ (List.mem_cons_of_mem _ (List.mem_cons_self ..)) q hq, (hr1.lt q hq).2⟩, RfL.of_own hr0, fun q hq => Or.inr ⟨hs.sep.base _ (List.mem_cons_self ..) q hq, (hr0.lt q hq).2⟩, hb.o, hb.lt⟩
          have := SlR.of_own hr1
          simpa [i64s] using this)
        by_cases hmj : ((prom.length : Int) + 1) ≤ many / 2
        · go_wp2_with fail
          clear pz rz e0 e1 e2 e3 e4 e5 e6 e7 r0 r1 r2 r3 r4 r5 r6 r7
          generalize wr.setCell ⟨w.heap.size, 6, none⟩ (.slice o0 K.length c0) = w9 at *
          have hs10 := HS9.out.blkSet8 2 rfl (.int .i64 many) (.int .i64 1) (.int .u64 b) (.int .u64 f) (.int .u64 next) (.slice (some ⟨g6, 0, none⟩) (prom.length + 1) cap6) (.slice o0 K.length c0) (.slice oo op.length oc)
          generalize ((((((((w9.setCell ⟨w.heap.size + 1, 0, none⟩ (.int .i64 many)).setCell ⟨w.heap.size + 1, 1, none⟩ (.int .i64 1)).setCell ⟨w.heap.size + 1, 2, none⟩ (.int .u64 b)).setCell ⟨w.heap.size + 1, 3, none⟩ (.int .u64 f)).setCell ⟨w.heap.size + 1, 4, none⟩ (.int .u64 next)).setCell ⟨w.heap.size + 1, 5, none⟩ (.slice (some ⟨g6, 0, none⟩) (prom.length + 1) cap6)).setCell ⟨w.heap.size + 1, 6, none⟩ (.slice o0 K.length c0)).setCell ⟨w.heap.size + 1, 7, none⟩ (.slice oo op.length oc)) = W4 at *
          have HS10 := Lib.hid hs10
          clear hs10
          obtain ⟨s0, s1, s2, s3, s4, s5, s6, s7⟩ := cells8 (HS10.out.get 2 rfl : W4.heap[w.heap.size + 1]? = some (.cells #[.int .i64 many, .int .i64 1, .int .u64 b, .int .u64 f, .int .u64 next, .slice (some ⟨g6, 0, none⟩) (prom.length + 1) cap6, .slice o0 K.length c0, .slice oo op.length oc] 66))
          refine bodyPost_ret (v := .tuple #[.agg #[.int .i64 many, .int .i64 1, .int .u64 b, .int .u64 f, .int .u64 next, .slice (some ⟨g6, 0, none⟩) (prom.length + 1) cap6, .slice o0 K.length c0, .slice oo op.length oc], .slice none 0 0, .bool false]) (by simp [results, Try.results34, go_sem, s0, s1, s2, s3, s4, s5, s6, s7]) rfl ?_
          rw [HR1.out]
          have hb := HS10.out.below
          exact Or.inl ⟨by simp only [List.length_append, List.length_cons, List.length_nil]; omega, _, _, rfl, HRL.out W4 (HS10.out.sub (List.sublist_append_left [_, _] _)), hb⟩
        · have hmd : decide (((prom.length : Int) + 1) ≤ many / 2) = false := decide_eq_false hmj
          go_wp2_with fail
          clear pz rz e0 e1 e2 e3 e4 e5 e6 e7 r0 r1 r2 r3 r4 r5 r6 r7
          generalize wr.setCell ⟨w.heap.size, 6, none⟩ (.slice o0 K.length c0) = w9 at *
          have hX : ∀ wr, Below w9.heap.size w9 wr → SepW w wr [obRow (.slice o0 K.length c0) 56 3 K.length (rfC K), obRow (.slice (some ⟨g6, 0, none⟩) (prom.length + 1) cap6) 3 1 (prom.length + 1) (i64s prom ++ [.int .i64 node]), obBlk (w.heap.size + 1) (.cells #[.int .i64 0, .int .i64 0, .int .u64 0, .int .u64 0, .int .u64 0, .slice none 0 0, .slice none 0 0, .slice none 0 0] 66), obBlk w.heap.size (.cells #[.int .i64 many, .int .i64 1, .int .u64 b, .int .u64 f, .int .u64 next, .slice (some ⟨g6, 0, none⟩) (prom.length + 1) cap6, .slice o0 K.length c0, .slice oo op.length oc] 66)] := fun wr hb => HS9.out.step hb
          have HX := Lib.hid hX
          clear hX HSr
          go_loopw [18, 17] (fun i ev wr => ∃ k : Nat, k ≤ K.length ∧ i = .int .i64 k ∧ ev = .int .u64 (endK f K k) ∧ (∀ v ∈ K.take k, f ≤ v.slot → v.slot ≠ 18446744073709551615 ∧ v.slot - f < 4096) ∧ Below w9.heap.size w9 wr) (fun i _ _ => K.length - (intOf i).toNat)
          case atStart => exact ⟨0, by omega, rfl, rfl, by simp, Below.refl _ _⟩
          case round =>
            obtain ⟨k, hk, rfl, rfl, hnf, hbk⟩ := hrel
            have HNf := Lib.hid hnf
            have HBk := Lib.hid hbk
            have HSk := Lib.hid (HX.out _ hbk)
            obtain ⟨e0, e1, e2, e3, e4, e5, e6, e7⟩ := cells8 (HSk.out.get 3 rfl : wr.heap[w.heap.size]? = some (.cells #[.int .i64 many, .int .i64 1, .int .u64 b, .int .u64 f, .int .u64 next, .slice (some ⟨g6, 0, none⟩) (prom.length + 1) cap6, .slice o0 K.length c0, .slice oo op.length oc] 66))
            clear hnf hbk
            by_cases hlt : k < K.length
            · have hki : (k : Int) < (K.length : Int) := by omega
              have hx := List.getElem?_eq_getElem hlt
              have hmem := List.getElem_mem hlt
              have hus := HUK.out _ hmem
              have huf := HUF.out
              obtain ⟨_, _, hh, _, _, hkx⟩ := RfL.of_own (HSk.out.get 0 rfl : wr.ownsRow 0 56 3 (.slice o0 K.length c0) K.length (rfC K))
              cases hh
              obtain ⟨ka, rfl, y0, y1, y2⟩ := hkx k _ hx
              have hEk := endK_succ (f := f) hx
              have hT : K.take (k + 1) = K.take k ++ [K[k]] := List.take_succ_eq_append_getElem hlt
              have hE0 := endK_ok f K k (by omega)
              have HT := Lib.hid hT
              have HEk := Lib.hid hEk
              have HMem := Lib.hid hmem
              generalize K[k] = q at *
              obtain ⟨qs, qb, qv⟩ := q
              try simp only at y0 y1 y2 hus
              simp only at HEk
              obtain ⟨hE0, _, _⟩ := hE0
              generalize endK f K k = en at *
              clear hx hmem hkx hEk hT
              have hus0 := hus
              unfold U1 at hus huf
              by_cases hlow : qs < f
              · rw [if_neg (by omega)] at HEk
                go_wp2_with fail
                go_roundw
                case rel => exact ⟨k + 1, by omega, by go_num, by rw [HEk.out], (by
                  intro v hv hf
                  rw [HT.out] at hv
                  rcases List.mem_append.1 hv with hv | hv
                  · exact HNf.out v hv hf
                  · simp at hv; subst hv; simp only at hf; omega), HBk.out⟩
                case measure => simp [intOf]; omega
              · have hld : decide (qs < f) = false := decide_eq_false hlow
                by_cases hfar : qs = 18446744073709551615 ∨ 4096 ≤ qs - f
                · have HFar : Hid (farR f K) := Lib.hid ⟨_, HMem.out, by simp only; omega, hfar⟩
                  have HStp : Hid (Calls Try.prog 42 #[.agg #[.int .i64 many, .int .i64 1, .int .u64 b, .int .u64 f, .int .u64 next, .slice (some ⟨g6, 0, none⟩) (prom.length + 1) cap6, .slice (some ka) K.length c0, .slice oo op.length oc]] wr fun e w' => e = .returned (.agg #[.int .i64 many, .int .i64 0, .int .u64 b, .int .u64 f, .int .u64 next, .slice (some ⟨g6, 0, none⟩) (prom.length + 1) cap6, .slice (some ka) K.length c0, .slice none 0 0]) ∧ Below wr.heap.size wr w') := Lib.hid (rstop_any (HRL.out wr (HSk.out.sub (List.sublist_append_left [_, _] _))))
                  have hws : IntKind.u64.wrap (qs - f) = qs - f := IntWalk.u64_in _ (by omega)
                  have hdd : (qs = 18446744073709551615 ∧ (qs == 18446744073709551615) = true) ∨ ((qs == 18446744073709551615) = false ∧ 4095 < qs - f) := by
                    by_cases e : qs = 18446744073709551615
                    · exact Or.inl ⟨e, by simpa using e⟩
                    · exact Or.inr ⟨by simpa using e, by omega⟩
                  clear hfar HEk HT HNf
                  rcases hdd with ⟨-, hq2⟩ | ⟨hq1, hq2⟩
                  all_goals
                    (try clear HMem)
                    go_wp2_with fail
                    with_reducible refine HStp.out.mono ?_
                    rintro e w10 ⟨rfl, hb10⟩
                    have HS10 := Lib.hid (HSk.out.step hb10)
                    obtain ⟨r0, r1, r2, r3, r4, r5, r6, r7⟩ := cells8 (HS10.out.get 2 rfl : w10.heap[w.heap.size + 1]? = some (.cells #[.int .i64 0, .int .i64 0, .int .u64 0, .int .u64 0, .int .u64 0, .slice none 0 0, .slice none 0 0, .slice none 0 0] 66))
                    have rz : ∀ j, w10.frozen? ⟨w.heap.size + 1, j, none⟩ = false := fun j => by have hh : w10.heap[w.heap.size + 1]? = _ := HS10.out.get 2 rfl; simp [World.frozen?, hh]
                    clear hb10
                    go_wp2_with fail
                    have hs11 := HS10.out.blkSet8 2 rfl (.int .i64 many) (.int .i64 0) (.int .u64 b) (.int .u64 f) (.int .u64 next) (.slice (some ⟨g6, 0, none⟩) (prom.length + 1) cap6) (.slice (some ka) K.length c0) (.slice none 0 0)
                    clear rz r0 r1 r2 r3 r4 r5 r6 r7
                    generalize ((((((((w10.setCell ⟨w.heap.size + 1, 0, none⟩ (.int .i64 many)).setCell ⟨w.heap.size + 1, 1, none⟩ (.int .i64 0)).setCell ⟨w.heap.size + 1, 2, none⟩ (.int .u64 b)).setCell ⟨w.heap.size + 1, 3, none⟩ (.int .u64 f)).setCell ⟨w.heap.size + 1, 4, none⟩ (.int .u64 next)).setCell ⟨w.heap.size + 1, 5, none⟩ (.slice (some ⟨g6, 0, none⟩) (prom.length + 1) cap6)).setCell ⟨w.heap.size + 1, 6, none⟩ (.slice (some ka) K.length c0)).setCell ⟨w.heap.size + 1, 7, none⟩ (.slice none 0 0)) = W4 at *
                    have HS11 := Lib.hid hs11
                    clear hs11
                    obtain ⟨s0, s1, s2, s3, s4, s5, s6, s7⟩ := cells8 (HS11.out.get 2 rfl : W4.heap[w.heap.size + 1]? = some (.cells #[.int .i64 many, .int .i64 0, .int .u64 b, .int .u64 f, .int .u64 next, .slice (some ⟨g6, 0, none⟩) (prom.length + 1) cap6, .slice (some ka) K.length c0, .slice none 0 0] 66))
                    refine bodyPost_ret (v := .tuple #[.agg #[.int .i64 many, .int .i64 0, .int .u64 b, .int .u64 f, .int .u64 next, .slice (some ⟨g6, 0, none⟩) (prom.length + 1) cap6, .slice (some ka) K.length c0, .slice none 0 0], .slice none 0 0, .bool false]) (by simp [results, Try.results34, go_sem, s0, s1, s2, s3, s4, s5, s6, s7]) rfl ?_
                    rw [HR1.out]
                    have hrl := HRL.out W4 (HS11.out.sub (List.sublist_append_left [_, _] _))
                    exact Or.inr (Or.inl ⟨by simp only [List.length_append, List.length_cons, List.length_nil]; omega, HFar.out, _, _, rfl, ⟨hrl.p, hrl.po, hrl.k, hrl.ko, OsL.nil _ _, hrl.lt⟩, HS11.out.below⟩)
                · have hne : (qs == 18446744073709551615) = false := by simp; omega
                  have hws : IntKind.u64.wrap (qs - f) = qs - f := IntWalk.u64_in _ (by omega)
                  have hgd : decide (4095 < qs - f) = false := decide_eq_false (by omega)
                  have hw1 : IntKind.u64.wrap (qs + 1) = qs + 1 := IntWalk.u64_in _ (by omega)
                  have HNf2 : Hid (∀ v ∈ K.take (k + 1), f ≤ v.slot → v.slot ≠ 18446744073709551615 ∧ v.slot - f < 4096) := Lib.hid (by
                    intro v hv hf
                    rw [HT.out] at hv
                    rcases List.mem_append.1 hv with hv | hv
                    · exact HNf.out v hv hf
                    · simp at hv; subst hv; exact ⟨fun e => hfar (Or.inl e), by simp only; omega⟩)
                  by_cases hge : en ≤ qs
                  · rw [if_pos (by omega)] at HEk
                    go_wp2_with fail
                    go_roundw
                    case rel => exact ⟨k + 1, by omega, by go_num, by rw [HEk.out], HNf2.out, HBk.out⟩
                    case measure => simp [intOf]; omega
                  · have hged : decide (en ≤ qs) = false := decide_eq_false hge
                    rw [if_neg (by omega)] at HEk
                    go_wp2_with fail
                    go_roundw
                    case rel => exact ⟨k + 1, by omega, by go_num, by rw [HEk.out], HNf2.out, HBk.out⟩
                    case measure => simp [intOf]; omega
            · have hkl : k = K.length := by omega
              subst hkl
              rw [List.take_length] at HNf
              have hE := endK_ok f K K.length (Nat.le_refl _)
              rw [List.take_length] at hE
              obtain ⟨hE1, hE2, hE3⟩ := hE
              have huf := HUF.out
              have hEu : endK f K K.length ≤ 18446744073709551615 := by
                unfold U1 at huf
                rcases hE3 with hE3 | ⟨v, hv, hf, he⟩
                · omega
                · have h1 := HNf.out v hv hf
                  have h2 := HUK.out v hv
                  unfold U1 at h2
                  omega
              have HNfar : Hid (¬ farR f K) := Lib.hid (by
                rintro ⟨v, hv, hf, h3⟩
                have := HNf.out v hv hf
                omega)
              have hEn : endK f K K.length - f ≤ 4096 := by
                rcases hE3 with hE3 | ⟨v, hv, hf, he⟩
                · omega
                · have h1 := HNf.out v hv hf
                  omega
              have HEn : Hid (endK f K K.length = endK f K K.length) := Lib.hid rfl
              obtain ⟨en, hen⟩ : ∃ en, en = endK f K K.length := ⟨_, rfl⟩
              rw [← hen] at hE1 hEu hEn ⊢
              have HEn := Lib.hid hen
              clear hen hE2 hE3 HNf hlt hk
              obtain ⟨n, hn⟩ : ∃ n : Nat, en = f + (n : Int) := ⟨(en - f).toNat, by omega⟩
              subst hn
              unfold U1 at huf
              obtain ⟨i0, hi, hz0, hz1, hz2⟩ := info_parts Try.roInfo
              have HL : Hid (∀ m, m < n → outL f b K (m + 1) = outL f b K m ++ [⟨f + (m : Int), b, ((look K (f + (m : Int))).getD ⟨0, 0, []⟩).val⟩]) := Lib.hid (fun m _ => by unfold outL; rw [List.range_succ, List.map_append]; rfl)
              have pz : ∀ j, wr.frozen? ⟨w.heap.size, j, none⟩ = false := fun j => by have hh : wr.heap[w.heap.size]? = _ := HSk.out.get 3 rfl; simp [World.frozen?, hh]
              go_wp2_with fail
              have hs10 := HSk.out.blkSet 3 rfl 7 (.slice none 0 0)
              simp only [List.set_cons_succ, List.set_cons_zero, List.setIfInBounds_toArray] at hs10
              clear pz e0 e1 e2 e3 e4 e5 e6 e7 HSk HX HS9 HBk
              generalize wr.setCell ⟨w.heap.size, 7, none⟩ (.slice none 0 0) = w10 at *
              have hs11 := hs10.newRow (v := .slice none 0 0) (e := 124) (z := 4) (n := 0) (xs := []) (World.ownsRow_nil _ _ _ _) (Below.refl _ _)
              have hs12 := hs11.newRow (v := .slice none 0 0) (e := 56) (z := 3) (n := 0) (xs := []) (World.ownsRow_nil _ _ _ _) (Below.refl _ _)
              have HS12 := Lib.hid hs12
              clear hs10 hs11 hs12
              go_loopw [21, 20] (fun sv outv wr => ∃ (m : Nat) (o : Option Addr) (c : Nat) (o2 : Option Addr) (c2 : Nat), m ≤ n ∧ sv = .int .u64 (f + (m : Int)) ∧ outv = .slice o m c ∧ m ≤ c2 ∧ c2 ≤ 9223372036854775807 ∧ SepW w wr [obRow (.slice o m c) 56 3 m (rfC (outL f b K m)), obRow (.slice o2 m c2) 124 4 m (oC (outL f b K m)), obRow (.slice o0 K.length c0) 56 3 K.length (rfC K), obRow (.slice (some ⟨g6, 0, none⟩) (prom.length + 1) cap6) 3 1 (prom.length + 1) (i64s prom ++ [.int .i64 node]), obBlk (w.heap.size + 1) (.cells #[.int .i64 0, .int .i64 0, .int .u64 0, .int .u64 0, .int .u64 0, .slice none 0 0, .slice none 0 0, .slice none 0 0] 66), obBlk w.heap.size (.cells #[.int .i64 many, .int .i64 1, .int .u64 b, .int .u64 f, .int .u64 next, .slice (some ⟨g6, 0, none⟩) (prom.length + 1) cap6, .slice o0 K.length c0, .slice o2 m c2] 66)]) (fun sv _ _ => (f + (n : Int)).toNat - (intOf sv).toNat)
              case atStart => exact ⟨0, none, 0, none, 0, by omega, by simp, rfl, by omega, by omega, HS12.out⟩
              case round =>
                obtain ⟨m, o, c, o2, c2, hmn, rfl, rfl, hc21, hc22, hsm⟩ := hrel
                have HSm := Lib.hid hsm
                obtain ⟨e0, e1, e2, e3, e4, e5, e6, e7⟩ := cells8 (hsm.get 5 rfl : wr.heap[w.heap.size]? = some (.cells #[.int .i64 many, .int .i64 1, .int .u64 b, .int .u64 f, .int .u64 next, .slice (some ⟨g6, 0, none⟩) (prom.length + 1) cap6, .slice o0 K.length c0, .slice o2 m c2] 66))
                clear hsm HS12
                by_cases hlt : m < n
                · have hli : f + (m : Int) < f + (n : Int) := by omega
                  have hwm : IntKind.u64.wrap (f + (m : Int) + 1) = f + (m : Int) + 1 := IntWalk.u64_in _ (by omega)
                  have HLm := Lib.hid (HL.out m hlt)
                  have HS1 : Hid (SepW w (wr.alloc (.cells #[.int .u64 (f + (m : Int)), .int .u64 b, .string ⟨#[]⟩] 56)) [obBlk wr.heap.size (.cells #[.int .u64 (f + (m : Int)), .int .u64 b, .string ⟨#[]⟩] 56), obRow (.slice o m c) 56 3 m (rfC (outL f b K m)), obRow (.slice o2 m c2) 124 4 m (oC (outL f b K m)), obRow (.slice o0 K.length c0) 56 3 K.length (rfC K), obRow (.slice (some ⟨g6, 0, none⟩) (prom.length + 1) cap6) 3 1 (prom.length + 1) (i64s prom ++ [.int .i64 node]), obBlk (w.heap.size + 1) (.cells #[.int .i64 0, .int .i64 0, .int .u64 0, .int .u64 0, .int .u64 0, .slice none 0 0, .slice none 0 0, .slice none 0 0] 66), obBlk w.heap.size (.cells #[.int .i64 many, .int .i64 1, .int .u64 b, .int .u64 f, .int .u64 next, .slice (some ⟨g6, 0, none⟩) (prom.length + 1) cap6, .slice o0 K.length c0, .slice o2 m c2] 66)]) := Lib.hid (HSm.out.newBlk #[.int .u64 (f + (m : Int)), .int .u64 b, .string ⟨#[]⟩] 56)
                  go_wp2_with fail
                  refine (rfind_any (f + (m : Int)) (RfL.of_own (HS1.out.get 3 rfl : (wr.alloc (.cells #[.int .u64 (f + (m : Int)), .int .u64 b, .string ⟨#[]⟩] 56)).ownsRow 0 56 3 (.slice o0 K.length c0) K.length (rfC K)))).mono ?_
                  rintro e w9 ⟨⟨i, rfl, hfi⟩, rfl⟩
                  obtain ⟨u, hu⟩ : ∃ u, u = ((look K (f + (m : Int))).getD ⟨0, 0, []⟩).val := ⟨_, rfl⟩
                  rw [← hu] at HLm
                  have HU := Lib.hid hu
                  have HFi := Lib.hid hfi
                  clear hu hfi
                  have hsz : wr.heap.size = wr.heap.size := rfl
                  generalize wr.alloc (.cells #[.int .u64 (f + (m : Int)), .int .u64 b, .string ⟨#[]⟩] 56) = wa at *
                  generalize wr.heap.size = VB at *
                  clear e0 e1 e2 e3 e4 e5 e6 e7 hsz
                  go_upto_if 168 with fail
                  go_cut [23] (fun s23 wx => s23 = .int .i64 i ∧ SepW w wx [obBlk VB (.cells #[.int .u64 (f + (m : Int)), .int .u64 b, .string (strB u)] 56), obRow (.slice o m c) 56 3 m (rfC (outL f b K m)), obRow (.slice o2 m c2) 124 4 m (oC (outL f b K m)), obRow (.slice o0 K.length c0) 56 3 K.length (rfC K), obRow (.slice (some ⟨g6, 0, none⟩) (prom.length + 1) cap6) 3 1 (prom.length + 1) (i64s prom ++ [.int .i64 node]), obBlk (w.heap.size + 1) (.cells #[.int .i64 0, .int .i64 0, .int .u64 0, .int .u64 0, .int .u64 0, .slice none 0 0, .slice none 0 0, .slice none 0 0] 66), obBlk w.heap.size (.cells #[.int .i64 many, .int .i64 1, .int .u64 b, .int .u64 f, .int .u64 next, .slice (some ⟨g6, 0, none⟩) (prom.length + 1) cap6, .slice o0 K.length c0, .slice o2 m c2] 66)])
                  case first =>
                    rcases HFi.out with ⟨rfl, hno⟩ | ⟨k0, q0, rfl, hk0, hlk, hno⟩
                    · have hu0 : u = [] := by rw [HU.out, hno]; rfl
                      clear hno
                      go_wp2_with fail
                      go_meet
                      exact ⟨rfl, by rw [hu0]; exact HS1.out⟩
                    · have hu0 : u = q0.val := by rw [HU.out, hlk]; rfl
                      have hk0l : k0 < K.length := (List.getElem?_eq_some_iff.1 hk0).1
                      have hk0i : (k0 : Int) < (K.length : Int) := by omega
                      have hk0z : (0 : Int) ≤ (k0 : Int) := by omega
                      obtain ⟨_, _, hh, _, _, hkx⟩ := RfL.of_own (HS1.out.get 3 rfl : wa.ownsRow 0 56 3 (.slice o0 K.length c0) K.length (rfC K))
                      cases hh
                      obtain ⟨ka, rfl, y0, y1, y2⟩ := hkx k0 _ hk0
                      obtain ⟨x0, x1, x2⟩ := cells3 (HS1.out.get 0 rfl : wa.heap[VB]? = some (.cells #[.int .u64 (f + (m : Int)), .int .u64 b, .string ⟨#[]⟩] 56))
                      have pz : ∀ j, wa.frozen? ⟨VB, j, none⟩ = false := fun j => by have hh : wa.heap[VB]? = _ := HS1.out.get 0 rfl; simp [World.frozen?, hh]
                      have HX1 := HS1.out.blkSet 0 rfl 2 (.string (strB q0.val))
                      simp only [List.set_cons_succ, List.set_cons_zero, List.setIfInBounds_toArray] at HX1
                      have HX1 := Lib.hid HX1
                      clear hkx hno hk0 hlk
                      go_wp2_with fail
                      go_meet
                      exact ⟨rfl, by rw [hu0]; exact HX1.out⟩
                  case rest =>
                    obtain ⟨rfl, hsx⟩ := hcut
                    have HSx := Lib.hid hsx
                    clear hsx HFi HU HS1 HSm
                    obtain ⟨x0, x1, x2⟩ := cells3 (HSx.out.get 0 rfl : wc.heap[VB]? = some (.cells #[.int .u64 (f + (m : Int)), .int .u64 b, .string (strB u)] 56))
                    obtain ⟨e0, e1, e2, e3, e4, e5, e6, e7⟩ := cells8 (HSx.out.get 6 rfl : wc.heap[w.heap.size]? = some (.cells #[.int .i64 many, .int .i64 1, .int .u64 b, .int .u64 f, .int .u64 next, .slice (some ⟨g6, 0, none⟩) (prom.length + 1) cap6, .slice o0 K.length c0, .slice o2 m c2] 66))
                    go_wp2_with (first
                      | (at_builtin; (refine wpList_appS rfl (.tmp 175) (.tmp 177) 46 rfl 0 56 l0 _ 3 32 Try.underlying46 hl0 hlz0 hlz1 hlz2 rfl (by decide) (by decide) rfl rfl rfl rfl (HSx.out.get 1 rfl) (by intro u hu; simp at hu; rcases hu with rfl | rfl | rfl <;> rfl) (by omega) (Nat.zero_le _) ?_)
                         intro g7 cap7 w7 hown7 hg7 hor7
                         (have HS7 : Hid (SepW w w7 [obBlk VB (.cells #[.int .u64 (f + (m : Int)), .int .u64 b, .string (strB u)] 56), obRow (.slice (some ⟨g7, 0, none⟩) (m + 1) cap7) 56 3 (m + 1) (rfC (outL f b K m) ++ [.int .u64 (f + (m : Int)), .int .u64 b, .string (strB u)]), obRow (.slice o2 m c2) 124 4 m (oC (outL f b K m)), obRow (.slice o0 K.length c0) 56 3 K.length (rfC K), obRow (.slice (some ⟨g6, 0, none⟩) (prom.length + 1) cap6) 3 1 (prom.length + 1) (i64s prom ++ [.int .i64 node]), obBlk (w.heap.size + 1) (.cells #[.int .i64 0, .int .i64 0, .int .u64 0, .int .u64 0, .int .u64 0, .slice none 0 0, .slice none 0 0, .slice none 0 0] 66), obBlk w.heap.size (.cells #[.int .i64 many, .int .i64 1, .int .u64 b, .int .u64 f, .int .u64 next, .slice (some ⟨g6, 0, none⟩) (prom.length + 1) cap6, .slice o0 K.length c0, .slice o2 m c2] 66)]) := Lib.hid (HSx.out.rowApp 1 rfl hg7 hor7 hown7))
                         clear e0 e1 e2 e3 e4 e5 e6 e7 x0 x1 x2
                         (obtain ⟨e0, e1, e2, e3, e4, e5, e6, e7⟩ := cells8 (HS7.out.get 6 rfl : w7.heap[w.heap.size]? = some (.cells #[.int .i64 many, .int .i64 1, .int .u64 b, .int .u64 f, .int .u64 next, .slice (some ⟨g6, 0, none⟩) (prom.length + 1) cap6, .slice o0 K.length c0, .slice o2 m c2] 66)))
                         (obtain ⟨x0, x1, x2⟩ := cells3 (HS7.out.get 0 rfl : w7.heap[VB]? = some (.cells #[.int .u64 (f + (m : Int)), .int .u64 b, .string (strB u)] 56)))
                         clear hown7 hg7 hor7 HSx)
                      | (at_builtin; (refine wpList_appS rfl (.tmp 180) (.tmp 183) 64 rfl 0 124 i0 _ 4 56 Try.underlying64 hi hz0 hz1 hz2 rfl (by decide) (by decide) rfl rfl rfl rfl (HS7.out.get 2 rfl) (by intro u hu; simp at hu; rcases hu with rfl | rfl | rfl | rfl <;> rfl) (by omega) (Nat.zero_le _) ?_)
                         intro g8 cap8 w8 hown8 hg8 hor8
                         (have HS8 : Hid (SepW w w8 [obBlk VB (.cells #[.int .u64 (f + (m : Int)), .int .u64 b, .string (strB u)] 56), obRow (.slice (some ⟨g7, 0, none⟩) (m + 1) cap7) 56 3 (m + 1) (rfC (outL f b K m) ++ [.int .u64 (f + (m : Int)), .int .u64 b, .string (strB u)]), obRow (.slice (some ⟨g8, 0, none⟩) (m + 1) cap8) 124 4 (m + 1) (oC (outL f b K m) ++ [.int .u64 (f + (m : Int)), .int .u64 b, .string (strB u), .slice none 0 0]), obRow (.slice o0 K.length c0) 56 3 K.length (rfC K), obRow (.slice (some ⟨g6, 0, none⟩) (prom.length + 1) cap6) 3 1 (prom.length + 1) (i64s prom ++ [.int .i64 node]), obBlk (w.heap.size + 1) (.cells #[.int .i64 0, .int .i64 0, .int .u64 0, .int .u64 0, .int .u64 0, .slice none 0 0, .slice none 0 0, .slice none 0 0] 66), obBlk w.heap.size (.cells #[.int .i64 many, .int .i64 1, .int .u64 b, .int .u64 f, .int .u64 next, .slice (some ⟨g6, 0, none⟩) (prom.length + 1) cap6, .slice o0 K.length c0, .slice o2 m c2] 66)]) := Lib.hid (HS7.out.rowApp 2 rfl hg8 hor8 hown8))
                         clear e0 e1 e2 e3 e4 e5 e6 e7 x0 x1 x2
                         (obtain ⟨e0, e1, e2, e3, e4, e5, e6, e7⟩ := cells8 (HS8.out.get 6 rfl : w8.heap[w.heap.size]? = some (.cells #[.int .i64 many, .int .i64 1, .int .u64 b, .int .u64 f, .int .u64 next, .slice (some ⟨g6, 0, none⟩) (prom.length + 1) cap6, .slice o0 K.length c0, .slice o2 m c2] 66)))
                         (have pz : ∀ j, w8.frozen? ⟨w.heap.size, j, none⟩ = false := fun j => by have hh : w8.heap[w.heap.size]? = _ := HS8.out.get 6 rfl; simp [World.frozen?, hh])
                         have HOr8 := Lib.hid (ownsRow_caps hown8)
                         clear hown8 hg8 hor8 HS7)
                      | fail)
                    have hs9 := HS8.out.blkSet 6 rfl 7 (.slice (some ⟨g8, 0, none⟩) (m + 1) cap8)
                    simp only [List.set_cons_succ, List.set_cons_zero, List.setIfInBounds_toArray] at hs9
                    have HS9 := Lib.hid (hs9.sub (List.sublist_cons_self _ _))
                    clear hs9 pz e0 e1 e2 e3 e4 e5 e6 e7 HS8
                    go_roundw
                    case rel => exact ⟨m + 1, _, _, _, _, by omega, by go_num, rfl, HOr8.out.1, HOr8.out.2, by rw [HLm.out, rfC_snoc, oC_snoc]; exact HS9.out⟩
                    case measure => simp [intOf]; omega
                · have hmn2 : m = n := by omega
                  subst hmn2
                  clear hlt hmn
                  have hdd : decide (f + (m : Int) < f + (m : Int)) = false := decide_eq_false (by omega)
                  have pz : ∀ j, wr.frozen? ⟨w.heap.size, j, none⟩ = false := fun j => by have hh : wr.heap[w.heap.size]? = _ := HSm.out.get 5 rfl; simp [World.frozen?, hh]
                  obtain ⟨r0, r1, r2, r3, r4, r5, r6, r7⟩ := cells8 (HSm.out.get 4 rfl : wr.heap[w.heap.size + 1]? = some (.cells #[.int .i64 0, .int .i64 0, .int .u64 0, .int .u64 0, .int .u64 0, .slice none 0 0, .slice none 0 0, .slice none 0 0] 66))
                  have rz : ∀ j, wr.frozen? ⟨w.heap.size + 1, j, none⟩ = false := fun j => by have hh : wr.heap[w.heap.size + 1]? = _ := HSm.out.get 4 rfl; simp [World.frozen?, hh]
                  go_wp2_with fail
                  have hs10 := (HSm.out.blkSet 5 rfl 1 (.int .i64 2))
                  simp only [List.set_cons_succ, List.set_cons_zero, List.setIfInBounds_toArray] at hs10
                  have hs11 := hs10.blkSet 5 rfl 4 (.int .u64 (f + (m : Int)))
                  simp only [List.set_cons_succ, List.set_cons_zero, List.setIfInBounds_toArray] at hs11
                  have hs12 := hs11.blkSet8 4 rfl (.int .i64 many) (.int .i64 2) (.int .u64 b) (.int .u64 f) (.int .u64 (f + (m : Int))) (.slice (some ⟨g6, 0, none⟩) (prom.length + 1) cap6) (.slice o0 K.length c0) (.slice o2 m c2)
                  clear pz rz e0 e1 e2 e3 e4 e5 e6 e7 r0 r1 r2 r3 r4 r5 r6 r7 hs10 hs11
                  generalize ((((((((((wr.setCell ⟨w.heap.size, 1, none⟩ (.int .i64 2)).setCell ⟨w.heap.size, 4, none⟩ (.int .u64 (f + (m : Int)))).setCell ⟨w.heap.size + 1, 0, none⟩ (.int .i64 many)).setCell ⟨w.heap.size + 1, 1, none⟩ (.int .i64 2)).setCell ⟨w.heap.size + 1, 2, none⟩ (.int .u64 b)).setCell ⟨w.heap.size + 1, 3, none⟩ (.int .u64 f)).setCell ⟨w.heap.size + 1, 4, none⟩ (.int .u64 (f + (m : Int)))).setCell ⟨w.heap.size + 1, 5, none⟩ (.slice (some ⟨g6, 0, none⟩) (prom.length + 1) cap6)).setCell ⟨w.heap.size + 1, 6, none⟩ (.slice o0 K.length c0)).setCell ⟨w.heap.size + 1, 7, none⟩ (.slice o2 m c2)) = W4 at *
                  have HSl := Lib.hid hs12
                  clear hs12 HSm
                  obtain ⟨s0, s1, s2, s3, s4, s5, s6, s7⟩ := cells8 (HSl.out.get 4 rfl : W4.heap[w.heap.size + 1]? = some (.cells #[.int .i64 many, .int .i64 2, .int .u64 b, .int .u64 f, .int .u64 (f + (m : Int)), .slice (some ⟨g6, 0, none⟩) (prom.length + 1) cap6, .slice o0 K.length c0, .slice o2 m c2] 66))
                  refine bodyPost_ret (v := .tuple #[.agg #[.int .i64 many, .int .i64 2, .int .u64 b, .int .u64 f, .int .u64 (f + (m : Int)), .slice (some ⟨g6, 0, none⟩) (prom.length + 1) cap6, .slice o0 K.length c0, .slice o2 m c2], .slice o m c, .bool true]) (by simp [results, Try.results34, go_sem, s0, s1, s2, s3, s4, s5, s6, s7]) rfl ?_
                  rw [HR1.out]
                  have hrl := HRL.out W4 ((HSl.out.sub (List.sublist_append_left [_, _, _, _] _)).sub (List.sublist_append_right [_, _] _))
                  have hob : W4.ownsRow w.heap.size 56 3 (.slice o m c) m (rfC (outL f b K m)) := ownsRow_base (HSl.out.get 0 rfl) (fun q hq => HSl.out.sep.base _ (List.mem_cons_self ..) q hq)
                  have hop : W4.ownsRow 0 124 4 (.slice o2 m c2) m (oC (outL f b K m)) := HSl.out.get 1 rfl
                  have hol : (outL f b K m).length = m := by simp [outL]
                  refine Or.inr (Or.inr ⟨by simp only [List.length_append, List.length_cons, List.length_nil]; omega, HNfar.out, m, f + (m : Int), _, _, _, o, c, HEn.out, rfl, rfl, ?_, hob, HSl.out.below⟩)
                  refine ⟨hrl.p, hrl.po, hrl.k, hrl.ko, ?_, hrl.lt⟩
                  refine ⟨oC (outL f b K m), ?_, oC_ok _ _ _, fun q hq => Or.inr ⟨HSl.out.sep.base _ (List.mem_cons_of_mem _ (List.mem_cons_self ..)) q hq, (hop.lt q hq).2⟩⟩
                  have := FlR.of_own hop (by decide)
                  simpa [rLead, hol] using this
end Go.Proofs.Ytjdjfhioobhcjaa
