/-
  GatherOrder: of any rows of up to 4 numbers, reported in order, or in whatever order, and however often: the same is gathered. No condition: every input.
-/
import Derived.Test.YtabanackdjlcmaaGatW
import Derived.Test.YtabanackdjlcmaaFrame
namespace Go.Proofs.Ytabanackdjlcmaa
open Go.ChangeShapes Go.WideShapes Go.ChangeAt Go.RowKit Go.Maps
set_option maxRecDepth 100000

/-- What was seen of the rows, and nothing else. -/
def Seen (L : List (List Int)) (K : Nat → Prop) (m : Rep) : Prop :=
  ∀ r : Nat, r < 2 → (m 0 r ≠ none ↔ ∃ k, k < L.length ∧ K k ∧ k % 2 = r) ∧
    ∀ xs, m 0 r = some xs → ∀ j : Nat, (∀ k, k < L.length → K k → k % 2 = r → atI (L.getD k []) j ≤ atI xs j) ∧ (atI xs j = 0 ∨ ∃ k, k < L.length ∧ K k ∧ k % 2 = r ∧ atI xs j = atI (L.getD k []) j) ∧ 0 ≤ atI xs j
theorem Seen.nil (L : List (List Int)) : Seen L (fun _ => False) (fun _ _ => none) := fun r _ => ⟨⟨fun h => absurd rfl h, fun ⟨_, _, h, _⟩ => h.elim⟩, fun xs h => by cases h⟩
theorem Seen.more {L : List (List Int)} {K : Nat → Prop} {m : Rep} (h : Seen L K m) {k : Nat} (hk : k < L.length) (hu : ∀ j : Nat, 0 ≤ atI (L.getD k []) j) : Seen L (fun i => K i ∨ i = k) (repG m 0 (k % 2 : Nat) (L.getD k [])) := by
  intro r hr
  unfold repG
  by_cases e : k % 2 = r
  · subst e
    rw [putG_self]
    refine ⟨⟨fun _ => ⟨k, hk, Or.inr rfl, rfl⟩, fun _ => by simp⟩, fun xs hx j => ?_⟩
    cases hx
    rw [atI_max2]
    obtain ⟨h1, h2⟩ := h _ hr
    cases hm : m 0 (k % 2 : Nat) with
    | none =>
      have hno : ∀ i, i < L.length → K i → i % 2 = k % 2 → False := fun i hi hK he => by
        have := h1.2 ⟨i, hi, hK, he⟩
        exact this hm
      have e0 : atI ((none : Option (List Int)).getD []) j = 0 := rfl
      have := hu j
      refine ⟨fun i hi hK he => ?_, Or.inr ⟨k, hk, Or.inr rfl, rfl, by rw [e0]; omega⟩, by omega⟩
      rcases hK with hK | hK
      · exact (hno i hi hK he).elim
      · subst hK; omega
    | some ys =>
      obtain ⟨g1, g2, g3⟩ := h2 ys hm j
      simp only [Option.getD_some]
      refine ⟨fun i hi hK he => ?_, ?_, by omega⟩
      · rcases hK with hK | hK
        · have := g1 i hi hK he; omega
        · subst hK; omega
      · rcases Int.le_total (atI (L.getD k []) j) (atI ys j) with hle | hle
        · rw [show max (atI ys j) (atI (L.getD k []) j) = atI ys j by omega]
          rcases g2 with g2 | ⟨i, a1, a2, a3, a4⟩
          · exact Or.inl g2
          · exact Or.inr ⟨i, a1, Or.inl a2, a3, a4⟩
        · exact Or.inr ⟨k, hk, Or.inr rfl, rfl, by omega⟩
  · rw [putG_ne _ _ _ _ _ _ (by rintro ⟨_, h2⟩; omega)]
    obtain ⟨h1, h2⟩ := h r hr
    refine ⟨⟨fun hm => ?_, fun ⟨i, a1, a2, a3⟩ => ?_⟩, fun xs hx j => ?_⟩
    · obtain ⟨i, a1, a2, a3⟩ := h1.1 hm; exact ⟨i, a1, Or.inl a2, a3⟩
    · rcases a2 with a2 | a2
      · exact h1.2 ⟨i, a1, a2, a3⟩
      · subst a2; exact absurd a3 e
    · obtain ⟨g1, g2, g3⟩ := h2 xs hx j
      refine ⟨fun i hi hK he => ?_, ?_, g3⟩
      · rcases hK with hK | hK
        · exact g1 i hi hK he
        · subst hK; exact absurd he e
      · rcases g2 with g2 | ⟨i, a1, a2, a3, a4⟩
        · exact Or.inl g2
        · exact Or.inr ⟨i, a1, Or.inl a2, a3, a4⟩
theorem Seen.ext {L : List (List Int)} {K K' : Nat → Prop} {m : Rep} (h : Seen L K m) (hk : ∀ k, k < L.length → (K k ↔ K' k)) : Seen L K' m := by
  intro r hr
  obtain ⟨h1, h2⟩ := h r hr
  refine ⟨⟨fun hm => ?_, fun ⟨i, a1, a2, a3⟩ => h1.2 ⟨i, a1, (hk i a1).2 a2, a3⟩⟩, fun xs hx j => ?_⟩
  · obtain ⟨i, a1, a2, a3⟩ := h1.1 hm; exact ⟨i, a1, (hk i a1).1 a2, a3⟩
  · obtain ⟨g1, g2, g3⟩ := h2 xs hx j
    refine ⟨fun i hi hK he => g1 i hi ((hk i hi).2 hK) he, ?_, g3⟩
    rcases g2 with g2 | ⟨i, a1, a2, a3, a4⟩
    · exact Or.inl g2
    · exact Or.inr ⟨i, a1, (hk i a1).1 a2, a3, a4⟩
/-- All of them were seen, in both: the same is told. -/
theorem Seen.all {L : List (List Int)} {m m' : Rep} (h : Seen L (fun _ => True) m) (h' : Seen L (fun _ => True) m') (hl : 0 < L.length) :
    leastB m 0 2 = decide (1 < L.length) ∧ leastB m' 0 2 = decide (1 < L.length) ∧ sameB (leastM m 0 2) (leastM m' 0 2) = true := by
  have hB : ∀ q : Rep, Seen L (fun _ => True) q → leastB q 0 2 = decide (1 < L.length) := by
    intro q hq
    by_cases h1 : 1 < L.length
    · rw [decide_eq_true h1]
      apply leastB_true
      intro i hi
      exact (hq i hi).1.2 ⟨i, by omega, trivial, by omega⟩
    · rw [decide_eq_false h1]
      apply leastB_false (i := 1) (by omega)
      cases hm : q 0 (1 : Nat) with
      | none => rfl
      | some x =>
        obtain ⟨i, a1, _, a3⟩ := (hq 1 (by omega)).1.1 (by rw [hm]; simp)
        omega
  refine ⟨hB m h, hB m' h', ?_⟩
  unfold leastM
  rw [hB m h, hB m' h']
  by_cases h1 : 1 < L.length
  · rw [decide_eq_true h1]
    simp only [if_true]
    apply same_iff.2
    intro j
    have hrow : ∀ r : Nat, r < 2 → atI ((m 0 r).getD []) j = atI ((m' 0 r).getD []) j := by
      intro r hr
      obtain ⟨a1, a2⟩ := h r hr
      obtain ⟨b1, b2⟩ := h' r hr
      have hs : ∃ k, k < L.length ∧ True ∧ k % 2 = r := ⟨r, by omega, trivial, by omega⟩
      have ha := a1.2 hs
      have hb := b1.2 hs
      cases hm : m 0 r with
      | none => exact absurd hm ha
      | some xs =>
        cases hm' : m' 0 r with
        | none => exact absurd hm' hb
        | some ys =>
          obtain ⟨p1, p2, p3⟩ := a2 xs hm j
          obtain ⟨q1, q2, q3⟩ := b2 ys hm' j
          show atI xs j = atI ys j
          rcases p2 with p2 | ⟨i, i1, i2, i3, i4⟩
          · rcases q2 with q2 | ⟨k, k1, k2, k3, k4⟩
            · omega
            · have := p1 k k1 k2 k3; omega
          · have e1 := q1 i i1 i2 i3
            rcases q2 with q2 | ⟨k, k1, k2, k3, k4⟩
            · omega
            · have := p1 k k1 k2 k3; omega
    have e : ∀ q : Rep, leastL q 0 2 = [(q 0 (0 : Nat)).getD [], (q 0 (1 : Nat)).getD []] := fun q => rfl
    rw [e, e, atI_min2, atI_min2, hrow 0 (by omega), hrow 1 (by omega)]
  · rw [decide_eq_false h1]; rfl

/-- A list's row, as it lies. -/
theorem RowsR.rowAt {W w : World} {ao : Option Addr} {n c : Nat} {L : List (List Int)} (h : RowsR W (.slice ao n c) L) (hb : Below W.heap.size W w) (k : Nat) (hk : k < L.length) :
    ∃ a so sc r, ao = some a ∧ r = L.getD k [] ∧ w.cell? (a.add k) = some (.slice so (List.length r) sc) ∧ SlR w (.slice so (List.length r) sc) (u64s r) ∧ List.length r ≤ sc ∧ sc ≤ 9223372036854775807 := by
  obtain ⟨a2, c2, hv, _, _, hx⟩ := h.below hb (Nat.le_refl _)
  cases hv
  obtain ⟨a, u, ha, hc, hs⟩ := hx k _ (List.getElem?_eq_getElem hk)
  obtain ⟨so, sc, hse, h1, h2⟩ := hs.form
  simp only [List.length_map] at hse h1
  subst hse
  exact ⟨a, so, sc, L[k], ha, by simp [List.getD, hk], hc, hs, h1, h2⟩
theorem and_one (k : Nat) (h : k < 8) : bits BinOp.and IntKind.i64 (k : Int) 1 = ((k % 2 : Nat) : Int) := by
  have : ∀ k : Fin 8, bits BinOp.and IntKind.i64 (k.val : Int) 1 = ((k.val % 2 : Nat) : Int) := by decide +kernel
  exact this ⟨k, h⟩
theorem u64_row {L : List (List Int)} (h : ∀ r ∈ L, U64 r) (k : Nat) : ∀ j : Nat, 0 ≤ atI (L.getD k []) j := by
  intro j
  by_cases hk : k < L.length
  · have e : L.getD k [] = L[k] := by simp [List.getD, hk]
    rw [e]; exact ((h _ (List.getElem_mem hk)).at j).1
  · have e : L.getD k [] = [] := by simp [List.getD, hk]
    rw [e]; simp [atI]
/-- A gatherer on a law's walk. -/
structure GIn (W : World) (p : Value) (D : Nat → Prop) (w : World) (N : Nat) (m : Rep) (L : List (List Int)) (K : Nat → Prop) : Prop where
  o : GatO p D w N m
  seen : Seen L K m
  new : ∀ k, D k → W.heap.size ≤ k
theorem GIn.step {W : World} {p : Value} {D : Nat → Prop} {w w' : World} {N : Nat} {m : Rep} {L : List (List Int)} {K : Nat → Prop} (h : GIn W p D w N m L K) (hb : Below w.heap.size w w') : GIn W p D w' N m L K := ⟨h.o.step hb, h.seen, h.new⟩
theorem GIn.keep {W : World} {p : Value} {S D : Nat → Prop} {w w' : World} {N : Nat} {m : Rep} {L : List (List Int)} {K : Nat → Prop} (h : GIn W p D w N m L K) (hk : Keep S w w') (hS : ∀ k, S k → ¬ D k) : GIn W p D w' N m L K := ⟨h.o.keep hk hS, h.seen, h.new⟩
/-- One report more: of this gatherer; another one, apart, stays. -/
theorem GIn.report {W : World} {p v : Value} {D : Nat → Prop} {w : World} {N : Nat} {m : Rep} {L : List (List Int)} {K : Nat → Prop} (h : GIn W p D w N m L K) (hb : Below W.heap.size W w) {k : Nat} (hk : k < L.length) {x : List Int} (hx : x = L.getD k []) (hv : SlR w v (u64s x)) (lx : x.length ≤ 4) (hu : ∀ j : Nat, 0 ≤ atI (L.getD k []) j) (hn : N < 1000000) {r : Int} (hr : r = ((k % 2 : Nat) : Int)) :
    Calls Try.prog 15 #[p, .int .i64 0, .int .i64 r, v] w fun e w' => e = .returned (.int .i64 0) ∧ ∃ (D' : Nat → Prop) (m' : Rep), GIn W p D' w' (N + 1) m' L (fun i => K i ∨ i = k) ∧ (∀ k, D' k → D k ∨ w.heap.size ≤ k) ∧ Keep D w w' ∧ Below W.heap.size W w' := by
  subst hr
  subst hx
  refine (h.o.report hv lx (by decide) ⟨by omega, by omega⟩ hn).mono ?_
  rintro e w' ⟨he, D', h1, h2, h3⟩
  refine ⟨he, D', _, ⟨h1, h.seen.more hk hu, fun j hj => ?_⟩, h2, h3, hb.trans (h3.below hb.size h.new)⟩
  rcases h2 j hj with h | h
  · exact GIn.new ‹_› j h
  · have := hb.size; omega

set_option maxHeartbeats 2000000 in
theorem gatherOrder_walk {W : World} {v0 v1 : Value} {L : List (List Int)} {bs : List Int} (h0 : RowsR W v0 L) (u0 : ∀ r ∈ L, U64 r) (h1 : SlR W v1 (u8s bs)) (w1 : ∀ x ∈ bs, (Lit.int .u8 x).wf = true) :
    Calls Try.prog 3 #[v0, v1] W fun e W' => e = .returned (.bool true) ∧ Below W.heap.size W W' := by
  obtain ⟨ao, ac, rfl, hac, ham, _⟩ := id h0
  obtain ⟨bo, bc, rfl, hbc, hbm, hbx⟩ := h1.ints
  have H0 := Lib.hid h0
  have HU := Lib.hid (u64_row u0)
  have HBx := Lib.hid hbx
  have ub := u8_of_wf w1
  have HUb := Lib.hid ub
  unfold maxLen at ham
  clear h0 u0 h1 w1 hbx ub
  by_cases hin : 0 < L.length ∧ L.length ≤ 8 ∧ bs.length ≤ 40
  rotate_left
  · have hout : ((L.length : Int) == 0) = true ∨ (((L.length : Int) == 0) = false ∧ 8 < (L.length : Int)) ∨ (((L.length : Int) == 0) = false ∧ (L.length : Int) ≤ 8 ∧ 40 < (bs.length : Int)) := by
      by_cases h1 : L.length = 0
      · left; rw [h1]; rfl
      · right
        have : ((L.length : Int) == 0) = false := by rw [beq_eq_false_iff_ne]; omega
        by_cases h2 : 8 < L.length
        · left; exact ⟨this, by omega⟩
        · right; exact ⟨this, by omega, by omega⟩
    clear hin
    rcases hout with h1 | ⟨h1, h2⟩ | ⟨h1, h2, h3⟩
    all_goals
      go_enter Try.func3, Try.ntmps3
      go_wp2_with (first
        | (go_at_call 13; refine (awake_any W).mono ?_; rintro e w1 ⟨rfl, hb1⟩; have HB1 := Lib.hid hb1)
        | fail)
      go_ret
      exact ⟨rfl, HB1.out⟩
  obtain ⟨hL0, hL8, hbl⟩ := hin
  have hL0' : (0 : Int) < L.length := by omega
  have hL8' : (L.length : Int) ≤ 8 := by omega
  have hbl' : (bs.length : Int) ≤ 40 := by omega
  have hLz : ((L.length : Int) == 0) = false := by rw [beq_eq_false_iff_ne]; omega
  go_enter Try.func3, Try.ntmps3
  go_wp2_with (first
    | (go_at_call 13; refine (awake_any W).mono ?_; rintro e w1 ⟨rfl, hb1⟩; have HB1 := Lib.hid hb1)
    | fail)
  refine (gnew_o w1).mono ?_
  rintro e w2 ⟨p, D0, rfl, hg2, hD0, hb2⟩
  obtain ⟨pb, rfl⟩ := hg2.ptr
  have HB2 := Lib.hid (HB1.out.trans (hb2.mono HB1.out.size))
  have HG2 : Hid (GIn W (.pointer (some ⟨pb, 0, none⟩)) D0 w2 0 (fun _ _ => none) L (fun _ => False)) := Lib.hid ⟨hg2, Seen.nil L, fun k hk => by have := hD0 k hk; have := HB1.out.size; omega⟩
  clear hg2 hb2 hD0
  go_wp2_with fail
  refine (gnew_o w2).mono ?_
  rintro e w3 ⟨q, D1, rfl, hg3, hD1, hb3⟩
  obtain ⟨qb, rfl⟩ := hg3.ptr
  have HB3 := Lib.hid (HB2.out.trans (hb3.mono HB2.out.size))
  have HG3 : Hid (GIn W (.pointer (some ⟨qb, 0, none⟩)) D1 w3 0 (fun _ _ => none) L (fun _ => False)) := Lib.hid ⟨hg3, Seen.nil L, fun k hk => by have := hD1 k hk; have := HB2.out.size; omega⟩
  have HG3' := Lib.hid (HG2.out.step hb3)
  have HAp : Hid (∀ k, D1 k → ¬ D0 k) := Lib.hid (fun k hk hd => by have := hD1 k hk; have := HG2.out.o.lt k hd; omega)
  clear hg3 hb3 hD1 HG2
  go_wp2_with fail
  go_loopw [8] (fun i wr => ∃ (k : Nat) (D : Nat → Prop) (m : Rep), k ≤ L.length ∧ i = .int .i64 k ∧ GIn W (.pointer (some ⟨pb, 0, none⟩)) D wr k m L (fun j => j < k) ∧ GIn W (.pointer (some ⟨qb, 0, none⟩)) D1 wr 0 (fun _ _ => none) L (fun _ => False) ∧ (∀ j, D1 j → ¬ D j) ∧ (∀ j, j < k → (L.getD j []).length ≤ 4) ∧ Below W.heap.size W wr) (fun i _ => L.length - (intOf i).toNat)
  case atStart => exact ⟨0, D0, _, by omega, rfl, ⟨HG3'.out.o, HG3'.out.seen.ext (fun k _ => by simp), HG3'.out.new⟩, HG3.out, HAp.out, fun j hj => by omega, HB3.out⟩
  case round =>
    obtain ⟨k, D, m, hk, rfl, hg, hh, hap, hl4, hbl2⟩ := hrel
    have HL4 := Lib.hid hl4
    have HG := Lib.hid hg
    have HH := Lib.hid hh
    have HP := Lib.hid hap
    have HB := Lib.hid hbl2
    clear hg hh hap hbl2 hl4
    by_cases hlt : k < L.length
    · obtain ⟨a, so, sc, r, rfl, hr, hc, hs, hs1, hs2⟩ := H0.out.rowAt HB.out k hlt
      have HS := Lib.hid hs
      have HR := Lib.hid hr
      have hand := and_one k (by omega)
      clear hs hr
      go_wp2_with fail
      · go_ret
        exact ⟨rfl, HB.out⟩
      have hl4' : ∀ j, j < k + 1 → (L.getD j []).length ≤ 4 := fun j hj => by
        by_cases e : j = k
        · subst e; rw [← HR.out]; omega
        · exact HL4.out j (by omega)
      have HL4' := Lib.hid hl4'
      have hcall := HG.out.report HB.out hlt HR.out HS.out (by omega) (HU.out k) (by omega) (r := (k : Int) % 2) (by omega)
      (with_reducible refine hcall.mono ?_)
      rintro e w4 ⟨rfl, D', m', hg4, hD4, hk4, hb4⟩
      have HG4 := Lib.hid hg4
      have HH4 := Lib.hid (HH.out.keep hk4 (fun j hj hd => HP.out j hd hj))
      have HP4 : Hid (∀ j, D1 j → ¬ D' j) := Lib.hid (fun j hj hd => by
        rcases hD4 j hd with h | h
        · exact HP.out j hj h
        · have := HH.out.o.lt j hj; omega)
      have HB4 := Lib.hid hb4
      have hx4 : GIn W (.pointer (some ⟨pb, 0, none⟩)) D' w4 (k + 1) m' L (fun j => j < k + 1) := ⟨hg4.o, hg4.seen.ext (fun j _ => by omega), hg4.new⟩
      have HX4 := Lib.hid hx4
      clear hg4 hD4 hk4 hb4 hx4 HG4 hl4'
      go_wp2_with fail
      go_roundw
      case rel => exact ⟨k + 1, D', m', by omega, by go_num, HX4.out, HH4.out, HP4.out, HL4'.out, HB4.out⟩
      case measure => simp [intOf]; omega
    · have hkl : k = L.length := by omega
      subst hkl
      have HGa : Hid (GIn W (.pointer (some ⟨pb, 0, none⟩)) D wr L.length m L (fun _ => True)) := Lib.hid ⟨HG.out.o, HG.out.seen.ext (fun j hj => by simp [hj]), HG.out.new⟩
      have HHb : Hid (∃ K, GIn W (.pointer (some ⟨qb, 0, none⟩)) D1 wr 0 (fun _ _ => none) L K) := Lib.hid ⟨_, HH.out⟩
      clear HG HH
      go_wp2_with fail
      go_loopw [9, 10] (fun i _ wr => ∃ (k : Nat) (D' : Nat → Prop) (m' : Rep) (K : Nat → Prop), k ≤ bs.length ∧ i = .int .i64 k ∧ GIn W (.pointer (some ⟨qb, 0, none⟩)) D' wr k m' L K ∧ GIn W (.pointer (some ⟨pb, 0, none⟩)) D wr L.length m L (fun _ => True) ∧ (∀ j, D' j → ¬ D j) ∧ Below W.heap.size W wr) (fun i _ _ => bs.length - (intOf i).toNat)
      case atStart =>
        obtain ⟨K, hK⟩ := HHb.out
        exact ⟨0, D1, _, K, by omega, rfl, hK, HGa.out, HP.out, HB.out⟩
      case round =>
        obtain ⟨k, D', m', K, hk, rfl, hh, hg, hap, hbl2⟩ := hrel
        have HH2 := Lib.hid hh
        have HG2 := Lib.hid hg
        have HP2 := Lib.hid hap
        have HB2 := Lib.hid hbl2
        clear hh hg hap hbl2
        by_cases hlt : k < bs.length
        · obtain ⟨ba, rfl, hbc⟩ := HBx.out k hlt
          have hbc := (HB2.out.cell (World.block_lt_of_cell? W _ hbc)).trans hbc
          have hby := HUb.out bs[k] (List.getElem_mem hlt)
          generalize bs[k] = y at *
          obtain ⟨kk, hkk⟩ : ∃ kk : Nat, (kk : Int) = y % L.length := ⟨(y % L.length).toNat, by have := Int.emod_nonneg y (by omega : (L.length : Int) ≠ 0); omega⟩
          have hkl : kk < L.length := by have := Int.emod_lt_of_pos y hL0'; omega
          have hmod : y % (L.length : Int) = kk := hkk.symm
          obtain ⟨a, so, sc, r, rfl, hr, hc, hs, hs1, hs2⟩ := H0.out.rowAt HB2.out kk hkl
          have hr4 : r.length ≤ 4 := by rw [hr]; exact HL4.out kk hkl
          have HS := Lib.hid hs
          have HR := Lib.hid hr
          have hand := and_one kk (by omega)
          clear hs hr hkk
          go_wp2_with fail
          have hcall := HH2.out.report HB2.out hkl HR.out HS.out hr4 (HU.out kk) (by omega) (r := (kk : Int) % 2) (by omega)
          (with_reducible refine hcall.mono ?_)
          rintro e w4 ⟨rfl, D'', m'', hg4, hD4, hk4, hb4⟩
          have HX4 : Hid (∃ K, GIn W (.pointer (some ⟨qb, 0, none⟩)) D'' w4 (k + 1) m'' L K) := Lib.hid ⟨_, hg4⟩
          have HH4 := Lib.hid (HG2.out.keep hk4 (fun j hj hd => HP2.out j hj hd))
          have HP4 : Hid (∀ j, D'' j → ¬ D j) := Lib.hid (fun j hj hd => by
            rcases hD4 j hj with h | h
            · exact HP2.out j h hd
            · have := HG2.out.o.lt j hd; omega)
          have HB4 := Lib.hid hb4
          clear hg4 hD4 hk4 hb4
          go_wp2_with fail
          go_roundw
          case rel =>
            obtain ⟨K', hK'⟩ := HX4.out
            exact ⟨k + 1, D'', m'', K', by omega, by go_num, hK', HH4.out, HP4.out, HB4.out⟩
          case measure => simp [intOf]; omega
        · have hkb : k = bs.length := by omega
          subst hkb
          have HH3 : Hid (∃ N, N ≤ 48 ∧ GIn W (.pointer (some ⟨qb, 0, none⟩)) D' wr N m' L K) := Lib.hid ⟨_, by omega, HH2.out⟩
          clear HH2
          obtain ⟨D3, m3, K3, hD3⟩ : ∃ D3 m3 K3, D3 = D' ∧ m3 = m' ∧ K3 = K := ⟨_, _, _, rfl, rfl, rfl⟩
          go_wp2_with fail
          go_loopw [11] (fun i wr => ∃ (k N : Nat) (D' : Nat → Prop) (m' : Rep) (K : Nat → Prop), k ≤ L.length ∧ N + k ≤ 48 + L.length ∧ i = .int .i64 ((k : Int) - 1) ∧ GIn W (.pointer (some ⟨qb, 0, none⟩)) D' wr N m' L K ∧ GIn W (.pointer (some ⟨pb, 0, none⟩)) D wr L.length m L (fun _ => True) ∧ (∀ j, D' j → ¬ D j) ∧ (∀ j, j < L.length → k ≤ j → K j) ∧ Below W.heap.size W wr) (fun i _ => (intOf i + 1).toNat)
          case atStart =>
            obtain ⟨N, hN, hK⟩ := HH3.out
            exact ⟨L.length, N, D', m', K, by omega, by omega, rfl, hK, HG2.out, HP2.out, fun j h1 h2 => by omega, HB2.out⟩
          case round =>
            obtain ⟨k, N, D'', m'', K', hk, hN, rfl, hh, hg, hap, hKs, hbl2⟩ := hrel
            have HH5 := Lib.hid hh
            have HG5 := Lib.hid hg
            have HP5 := Lib.hid hap
            have HB5 := Lib.hid hbl2
            have HK5 := Lib.hid hKs
            clear hh hg hap hbl2 hKs
            by_cases hlt : 0 < k
            · obtain ⟨kk, rfl⟩ : ∃ kk, k = kk + 1 := ⟨k - 1, by omega⟩
              have e1 : ((kk + 1 : Nat) : Int) - 1 = kk := by omega
              rw [e1] at *
              obtain ⟨a, so, sc, r, rfl, hr, hc, hs, hs1, hs2⟩ := H0.out.rowAt HB5.out kk (by omega)
              have hr4 : r.length ≤ 4 := by rw [hr]; exact HL4.out kk (by omega)
              have HS := Lib.hid hs
              have HR := Lib.hid hr
              have hand := and_one kk (by omega)
              have hkL : (kk : Int) < L.length := by omega
              clear hs hr e1
              go_wp2_with fail
              have hcall := HH5.out.report HB5.out (k := kk) (by omega) HR.out HS.out hr4 (HU.out kk) (by omega) (r := (kk : Int) % 2) (by omega)
              (with_reducible refine hcall.mono ?_)
              rintro e w4 ⟨rfl, D5, m5, hg4, hD4, hk4, hb4⟩
              have HX4 := Lib.hid hg4
              have HH4 := Lib.hid (HG5.out.keep hk4 (fun j hj hd => HP5.out j hj hd))
              have HP4 : Hid (∀ j, D5 j → ¬ D j) := Lib.hid (fun j hj hd => by
                rcases hD4 j hj with h | h
                · exact HP5.out j h hd
                · have := HG5.out.o.lt j hd; omega)
              have HB4 := Lib.hid hb4
              clear hg4 hD4 hk4 hb4
              go_wp2_with fail
              go_roundw
              case rel => exact ⟨kk, N + 1, D5, m5, _, by omega, by omega, by go_num, HX4.out, HH4.out, HP4.out, fun j h1 h2 => by
                by_cases e : j = kk
                · exact Or.inr e
                · exact Or.inl (HK5.out j h1 (by omega)), HB4.out⟩
              case measure => simp [intOf]
            · have hk0 : k = 0 := by omega
              subst hk0
              have HF : Hid (GIn W (.pointer (some ⟨qb, 0, none⟩)) D'' wr N m'' L (fun _ => True)) := Lib.hid ⟨HH5.out.o, HH5.out.seen.ext (fun j hj => by simp; exact HK5.out j hj (by omega)), HH5.out.new⟩
              have hall := HG5.out.seen.all HF.out.seen hL0
              obtain ⟨ha1, ha2, ha3⟩ := hall
              have HA3 := Lib.hid ha3
              clear HH5 ha3
              go_wp2_with fail
              refine (HG5.out.o.least (s := 0) (many := 2) ⟨by decide, by decide⟩ (by decide) (by decide)).mono ?_
              rintro e w4 ⟨v4, rfl, hs4, hb4⟩
              rw [ha1]
              have HF4 := Lib.hid (HF.out.step hb4)
              have HB4 := Lib.hid (HB5.out.trans (hb4.mono HB5.out.size))
              have HS4 := Lib.hid hs4
              clear hb4 hs4
              go_wp2_with fail
              refine (HF4.out.o.least (s := 0) (many := 2) ⟨by decide, by decide⟩ (by decide) (by decide)).mono ?_
              rintro e w6 ⟨v6, rfl, hs6, hb6⟩
              rw [ha2]
              have HB6 := Lib.hid (HB4.out.trans (hb6.mono HB4.out.size))
              have HSm := Lib.hid (same_any (HS4.out.below hb6 (Nat.le_refl _)) hs6)
              rw [HA3.out] at HSm
              clear hb6 hs6 ha1 ha2
              go_wp2_with (go_at_call 17; ((with_reducible refine HSm.out.mono ?_); rintro e w' ⟨rfl, rfl⟩))
              all_goals
                go_ret
                exact ⟨by simp; omega, HB6.out⟩

theorem gatherOrder_holds : Rows.GatherOrderSaid :=
  OpenClaim.holds_of_wide 3 Try.f3 rfl rfl rfl rfl rfl rfl rfl ⟨rfl, rfl, rfl, rfl, rfl⟩ rfl rfl rfl rfl rfl (by kernel_rfl) Try.func3 (by kernel_rfl)
    (of_decide_eq_true (by kernel_rfl)) (by unfold Func.isWrapper; rw [if_neg (by decide +kernel)]; exact ⟨rfl, rfl⟩)
    (fun os started H enc _ => law_frame (C := Try.checked) (fn := Try.f3) (s := Rows.gatherOrderSpec) (tb := 4) Try.own started (by kernel_rfl) Try.func3 Try.laidOut rfl (by kernel_rfl) Try.underlying4 (by kernel_rfl)
      (fun ds hd => by match ds, hd with | [_, _], _ => exact ⟨rfl, rfl, rfl⟩)
      (ChangeSpec.witness6 (enc := enc) (C := Try.checked) false ⟨#[], #[.slice none 0 0, .slice none 0 0], []⟩ 8 (by kernel_rfl) (by kernel_rfl) (by kernel_rfl) (by kernel_rfl))
      (fun W base args ds p hval0 hA0 _ => by
        have hval : ∀ (j : Nat) t v, Try.f3.params[j]? = some t → args[j]? = some v → Value.okWide Try.prog W .any base t v := hval0
        have hA : DataW.TrodAll enc Try.prog W 0 (fun _ => true) true Try.f3.params.toList args.toList ds p := hA0
        rw [Try.params3] at hA hval
        obtain ⟨v0, v1, d0, d1, p0, p1, rfl, rfl, rfl, h0, h1⟩ := trodAll_two hA
        obtain ⟨x0, hx0, wx0⟩ := arg_rows Try.underlying22 Try.underlying27 Try.underlying39 (by kernel_rfl) (by kernel_rfl) (hval 0 22 v0 rfl rfl) h0
        obtain ⟨x1, hx1, wx1⟩ := arg_ints Try.underlying23 Try.underlying5 (by kernel_rfl) (hval 1 23 v1 rfl rfl) h1
        exact gatherOrder_walk hx0 wx0 hx1 wx1))

end Go.Proofs.Ytabanackdjlcmaa
