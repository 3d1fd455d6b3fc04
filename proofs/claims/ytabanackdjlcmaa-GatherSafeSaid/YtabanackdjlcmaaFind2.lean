/-
  Contracts: the search in a row of spans.
-/
import Derived.Test.YtabanackdjlcmaaFind
namespace Go.Proofs.Ytabanackdjlcmaa
open Go.ChangeShapes Go.WideShapes Go.ChangeAt Go.RowKit Go.Maps
set_option maxRecDepth 100000

/-- A slice that reads as spans. -/
def SpL (w : World) (v : Value) (l : List Sp) : Prop := ∃ ao c, v = .slice ao l.length c ∧ l.length ≤ c ∧ c ≤ 9223372036854775807 ∧ ∀ i u, (spC l)[i]? = some u → ∃ a, ao = some a ∧ w.cell? (a.add i) = some u
theorem SpL.of_own {w : World} {base : Nat} {e : TypeId} {v : Value} {l : List Sp} (h : w.ownsRow base e 5 v l.length (spC l)) : SpL w v l := by
  rcases h.2 with ⟨rfl, h0⟩ | ⟨g, cap, cur, rfl, hb, hg, hnc, hcm, hcs, htake⟩
  · have : l = [] := List.eq_nil_of_length_eq_zero h0
    subst this
    exact ⟨none, 0, rfl, Nat.le_refl _, by omega, by simp [spC]⟩
  · unfold maxLen at hcm
    exact ⟨some ⟨g, 0, none⟩, cap, rfl, hnc, by omega, fun i u hi => ⟨_, rfl, h.cells (g := g) rfl i u hi⟩⟩
theorem SpL.below {B : Nat} {w w' : World} {v : Value} {l : List Sp} (hb : Below B w w') (hB : w.heap.size ≤ B) (h : SpL w v l) : SpL w' v l := by
  obtain ⟨ao, c, e, h1, h2, hx⟩ := h
  refine ⟨ao, c, e, h1, h2, fun i u hi => ?_⟩
  obtain ⟨a, ha, hc⟩ := hx i u hi
  refine ⟨a, ha, ?_⟩
  rw [hb.cell (by have := World.block_lt_of_cell? w _ hc; omega)]; exact hc
theorem spC_at (l : List Sp) (k : Nat) (s : Sp) (h : l[k]? = some s) : (spC l)[k * 5]? = some (.int .u64 s.pos) ∧ (spC l)[k * 5 + 1]? = some (.int .i64 s.shard) ∧ (spC l)[k * 5 + 2]? = some (.int .i64 s.seg) ∧ (spC l)[k * 5 + 3]? = some (.int .u64 s.off) ∧ (spC l)[k * 5 + 4]? = some (.int .u64 s.many) := by
  induction l generalizing k with
  | nil => simp at h
  | cons p r ih =>
    have e : spC (p :: r) = .int .u64 p.pos :: .int .i64 p.shard :: .int .i64 p.seg :: .int .u64 p.off :: .int .u64 p.many :: spC r := rfl
    rw [e]
    cases k with
    | zero => simp at h; subst h; exact ⟨rfl, rfl, rfl, rfl, rfl⟩
    | succ k =>
      have := ih k (by simpa using h)
      rw [show (k + 1) * 5 = k * 5 + 5 by omega]
      simpa using this
theorem SpL.at {w : World} {ao : Option Addr} {n c : Nat} {l : List Sp} (h : SpL w (.slice ao n c) l) (k : Nat) (s : Sp) (hs : l[k]? = some s) :
    ∃ a, ao = some a ∧ w.cell? (a.add (k * 5)) = some (.int .u64 s.pos) ∧ w.cell? ⟨(a.add (k * 5)).block, (a.add (k * 5)).off + 1, none⟩ = some (.int .i64 s.shard) ∧ w.cell? ⟨(a.add (k * 5)).block, (a.add (k * 5)).off + 2, none⟩ = some (.int .i64 s.seg) ∧
      w.cell? ⟨(a.add (k * 5)).block, (a.add (k * 5)).off + 3, none⟩ = some (.int .u64 s.off) ∧ w.cell? ⟨(a.add (k * 5)).block, (a.add (k * 5)).off + 4, none⟩ = some (.int .u64 s.many) := by
  obtain ⟨ao', c', hv, _, _, hx⟩ := h
  cases hv
  obtain ⟨e0, e1, e2, e3, e4⟩ := spC_at l k s hs
  obtain ⟨a, rfl, c0⟩ := hx _ _ e0
  obtain ⟨a1, ha1, c1⟩ := hx _ _ e1
  obtain ⟨a2, ha2, c2⟩ := hx _ _ e2
  obtain ⟨a3, ha3, c3⟩ := hx _ _ e3
  obtain ⟨a4, ha4, c4⟩ := hx _ _ e4
  cases ha1; cases ha2; cases ha3; cases ha4
  refine ⟨a, rfl, c0, ?_, ?_, ?_, ?_⟩
  · rw [add_more _ _ _ (by omega)]; exact c1
  · rw [add_more _ _ _ (by omega)]; exact c2
  · rw [add_more _ _ _ (by omega)]; exact c3
  · rw [add_more _ _ _ (by omega)]; exact c4

set_option maxHeartbeats 2000000 in
theorem search_any {w : World} {v : Value} {l : List Sp} {pos : Int} (hv : SpL w v l) (hl : l.length ≤ 1000000) (hsort : ∀ (a b : Nat) (p q : Sp), a ≤ b → l[a]? = some p → l[b]? = some q → p.pos ≤ q.pos) :
    Calls Try.prog 47 #[v, .int .u64 pos, .func (.func 48) #[] #[]] w
      fun e w' => ∃ (i : Nat) (b : Bool), e = .returned (.tuple #[.int .i64 i, .bool b]) ∧ i ≤ l.length ∧ (∀ (j : Nat) (s : Sp), j < i → l[j]? = some s → s.pos < pos) ∧ (∀ (j : Nat) (s : Sp), i ≤ j → l[j]? = some s → pos ≤ s.pos) ∧ (b = true ↔ ∃ s, l[i]? = some s ∧ s.pos = pos) ∧ Below w.heap.size w w' := by
  have HV := Lib.hid hv
  have HS := Lib.hid hsort
  obtain ⟨ao, c, rfl, hc1, hc2, _⟩ := id hv
  clear hv hsort
  go_enter Try.func47, Try.ntmps47
  go_wp2_with fail
  go_loopw [9, 10, 11] (fun i j _ wr => ∃ (a b : Nat), a ≤ b ∧ b ≤ l.length ∧ i = .int .i64 a ∧ j = .int .i64 b ∧ (∀ (k : Nat) (s : Sp), k < a → l[k]? = some s → s.pos < pos) ∧ (∀ (k : Nat) (s : Sp), b ≤ k → l[k]? = some s → pos ≤ s.pos) ∧ Below w.heap.size w wr) (fun i j _ _ => (intOf j - intOf i).toNat)
  case atStart => exact ⟨0, l.length, by omega, by omega, rfl, rfl, (fun k s hk => by omega), (fun k s hk hs => by rw [List.getElem?_eq_none hk] at hs; cases hs), Below.refl _ _⟩
  case round =>
    obtain ⟨a, b, hab, hbl, rfl, rfl, hlo, hhi, hbw⟩ := hrel
    have HLo := Lib.hid hlo
    have HHi := Lib.hid hhi
    have HB := Lib.hid hbw
    clear hlo hhi hbw
    by_cases hlt : a < b
    · have hlt' : (a : Int) < (b : Int) := by omega
      obtain ⟨m, hm⟩ : ∃ m : Nat, m = (a + b) / 2 := ⟨_, rfl⟩
      have hm1 : a ≤ m := by omega
      have hm2 : m < b := by omega
      have hmi : ((a : Int) + b) / 2 = m := by omega
      have hmi2 : ((a : Int) + b) / 2 ^ 1 = m := by omega
      have hab0 : (0 : Int) ≤ (a : Int) + b := by omega
      have hab1 : (a : Int) + b ≤ 18446744073709551615 := by omega
      have hm0 : (0 : Int) ≤ m := by omega
      have hml : (m : Int) < l.length := by omega
      clear hm
      obtain ⟨s, hs⟩ : ∃ s, l[m]? = some s := ⟨l[m]'(by omega), List.getElem?_eq_getElem (by omega)⟩
      obtain ⟨ad, rfl, q0, q1, q2, q3, q4⟩ := (HV.out.below HB.out (Nat.le_refl _)).at m s hs
      have HSm := Lib.hid hs
      clear hs
      go_wp2_with fail
      refine (find1_any s pos wr).mono ?_
      rintro e w4 ⟨rfl, hb4⟩
      have HB4 := Lib.hid (HB.out.trans (hb4.mono HB.out.size))
      clear hb4
      by_cases hsp : s.pos < pos
      · have e1 : cmpI s.pos pos = -1 := by unfold cmpI; rw [if_pos hsp]
        rw [e1]
        clear e1
        have HP := Lib.hid hsp
        clear hsp
        go_wp2_with fail
        go_roundw
        case rel => exact ⟨m + 1, b, by omega, by omega, by go_num, rfl, (fun k x hk hx => by
          have h1 := HS.out k m x s (by omega) hx HSm.out
          have h2 := HP.out
          omega), HHi.out, HB4.out⟩
        case measure => simp [intOf]; omega
      · have e1 : decide (cmpI s.pos pos < 0) = false := by
          unfold cmpI; rw [if_neg hsp]; split <;> rfl
        have HP := Lib.hid hsp
        clear hsp
        generalize cmpI s.pos pos = ci at *
        go_wp2_with fail
        go_roundw
        case rel => exact ⟨a, m, by omega, by omega, rfl, by go_num, HLo.out, (fun k x hk hx => by
          have h1 := HS.out m k s x hk HSm.out hx
          have h2 := HP.out
          omega), HB4.out⟩
        case measure => simp [intOf]; omega
    · have hba : b = a := by omega
      subst hba
      by_cases hal : b < l.length
      · obtain ⟨s, hs⟩ : ∃ s, l[b]? = some s := ⟨l[b]'hal, List.getElem?_eq_getElem hal⟩
        obtain ⟨ad, rfl, q0, q1, q2, q3, q4⟩ := (HV.out.below HB.out (Nat.le_refl _)).at b s hs
        have HSm := Lib.hid hs
        have hbi : (b : Int) < (l.length : Int) := by omega
        clear hs
        go_wp2_with fail
        refine (find1_any s pos wr).mono ?_
        rintro e w4 ⟨rfl, hb4⟩
        have HB4 := Lib.hid (HB.out.trans (hb4.mono HB.out.size))
        clear hb4
        have he : (cmpI s.pos pos == 0) = (s.pos == pos) := by
          unfold cmpI
          by_cases h1 : s.pos < pos
          · rw [if_pos h1]; have : (s.pos == pos) = false := by rw [beq_eq_false_iff_ne]; omega
            rw [this]; rfl
          · rw [if_neg h1]
            by_cases h2 : pos < s.pos
            · rw [if_pos h2]; have : (s.pos == pos) = false := by rw [beq_eq_false_iff_ne]; omega
              rw [this]; rfl
            · rw [if_neg h2]; have : (s.pos == pos) = true := by rw [beq_iff_eq]; omega
              rw [this]; rfl
        have HE := Lib.hid he
        clear he
        generalize cmpI s.pos pos = ci at *
        go_wp2_with fail
        go_ret2
        refine ⟨b, (s.pos == pos), by rw [← HE.out]; first | rfl | simp, by omega, HLo.out, HHi.out, ?_, HB4.out⟩
        rw [HSm.out]
        simp
      · have hbi : decide ((b : Int) < (l.length : Int)) = false := decide_eq_false (by omega)
        have HNo : Hid (l[b]? = none) := Lib.hid (List.getElem?_eq_none (by omega))
        go_wp2_with fail
        go_ret2
        refine ⟨b, false, by first | rfl | simp, by omega, HLo.out, HHi.out, ?_, HB.out⟩
        rw [HNo.out]
        simp
end Go.Proofs.Ytabanackdjlcmaa
