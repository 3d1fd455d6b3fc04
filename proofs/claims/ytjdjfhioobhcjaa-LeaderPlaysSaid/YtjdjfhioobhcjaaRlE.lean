/-
  The document's leader: Propose.
-/
import Derived.Test.YtjdjfhioobhcjaaRlP
namespace Go.Proofs.Ytjdjfhioobhcjaa
open Go.ChangeShapes Go.WideShapes Go.ChangeAt Go.RowKit Go.Maps Go.Shelf
set_option maxRecDepth 100000

theorem cells8 {W : World} {b : Nat} {x0 x1 x2 x3 x4 x5 x6 x7 : Value} {t : TypeId} {fr : Nat × Nat} (h : W.heap[b]? = some (.cells #[x0, x1, x2, x3, x4, x5, x6, x7] t fr)) :
    W.cell? ⟨b, 0, none⟩ = some x0 ∧ W.cell? ⟨b, 1, none⟩ = some x1 ∧ W.cell? ⟨b, 2, none⟩ = some x2 ∧ W.cell? ⟨b, 3, none⟩ = some x3 ∧ W.cell? ⟨b, 4, none⟩ = some x4 ∧ W.cell? ⟨b, 5, none⟩ = some x5 ∧ W.cell? ⟨b, 6, none⟩ = some x6 ∧ W.cell? ⟨b, 7, none⟩ = some x7 :=
  ⟨World.news_of_block h 0 _ rfl, World.news_of_block h 1 _ rfl, World.news_of_block h 2 _ rfl, World.news_of_block h 3 _ rfl, World.news_of_block h 4 _ rfl, World.news_of_block h 5 _ rfl, World.news_of_block h 6 _ rfl, World.news_of_block h 7 _ rfl⟩
theorem cells3 {W : World} {b : Nat} {x0 x1 x2 : Value} {t : TypeId} {fr : Nat × Nat} (h : W.heap[b]? = some (.cells #[x0, x1, x2] t fr)) :
    W.cell? ⟨b, 0, none⟩ = some x0 ∧ W.cell? ⟨b, 1, none⟩ = some x1 ∧ W.cell? ⟨b, 2, none⟩ = some x2 :=
  ⟨World.news_of_block h 0 _ rfl, World.news_of_block h 1 _ rfl, World.news_of_block h 2 _ rfl⟩
/-- Two blocks that are made one behind the other. -/
theorem two_new (w : World) (o1 o2 : Obj) : ((w.alloc o1).alloc o2).heap[w.heap.size]? = some o1 ∧ ((w.alloc o1).alloc o2).heap[w.heap.size + 1]? = some o2 ∧ ((w.alloc o1).alloc o2).heap.size = w.heap.size + 2 ∧ Below w.heap.size w ((w.alloc o1).alloc o2) := by
  have e : (w.alloc o1).heap.size = w.heap.size + 1 := by simp
  refine ⟨?_, ?_, by simp, ((Below.refl w.heap.size w).alloc (Nat.le_refl _) o1).alloc (by simp) o2⟩
  · rw [Below.heap_alloc _ _ _ (by simp)]; exact heap_alloc_new w o1
  · have := heap_alloc_new (w.alloc o1) o2
    rwa [e] at this
/-- Three. -/
theorem three_new (w : World) (o1 o2 o3 : Obj) : (((w.alloc o1).alloc o2).alloc o3).heap[w.heap.size]? = some o1 ∧ (((w.alloc o1).alloc o2).alloc o3).heap[w.heap.size + 1]? = some o2 ∧ (((w.alloc o1).alloc o2).alloc o3).heap[w.heap.size + 2]? = some o3 ∧ (((w.alloc o1).alloc o2).alloc o3).heap.size = w.heap.size + 3 ∧ Below w.heap.size w (((w.alloc o1).alloc o2).alloc o3) := by
  obtain ⟨h1, h2, h3, h4⟩ := two_new w o1 o2
  refine ⟨?_, ?_, ?_, by simp, h4.alloc (by omega) o3⟩
  · rw [Below.heap_alloc _ _ _ (by omega)]; exact h1
  · rw [Below.heap_alloc _ _ _ (by omega)]; exact h2
  · have := heap_alloc_new ((w.alloc o1).alloc o2) o3
    rwa [h3] at this

set_option maxHeartbeats 2000000 in
theorem rbegin_old {S : Nat → Prop} {w : World} {R : RL} {pv kv ov : Value} (h : RLs S w R pv kv ov) {b f : Int} (hb : b ≤ R.ballot) : Calls Try.prog 32 #[rlV R pv kv ov, .int .u64 b, .int .u64 f] w fun e w' => e = .returned (.tuple #[rlV R pv kv ov, .int .i64 32]) ∧ Below w.heap.size w w' := by
  obtain ⟨po, pc, ko, kc, oo, oc, rfl, rfl, rfl, a1, a2, b1, b2, c1, c2⟩ := h.forms
  unfold rlV
  obtain ⟨many, stage, ballot, first, next, prom, kn, op⟩ := R
  simp only at *
  clear h
  go_enter Try.func32, Try.ntmps32
  go_wp2_with fail
  obtain ⟨k0, k1, k2, hB⟩ := two_new w (.cells #[.int .i64 many, .int .i64 stage, .int .u64 ballot, .int .u64 first, .int .u64 next, .slice po prom.length pc, .slice ko kn.length kc, .slice oo op.length oc] 66) (.cells #[.int .i64 many, .int .i64 stage, .int .u64 ballot, .int .u64 first, .int .u64 next, .slice po prom.length pc, .slice ko kn.length kc, .slice oo op.length oc] 66)
  have HB := Lib.hid hB
  generalize (w.alloc (.cells #[.int .i64 many, .int .i64 stage, .int .u64 ballot, .int .u64 first, .int .u64 next, .slice po prom.length pc, .slice ko kn.length kc, .slice oo op.length oc] 66)).alloc (.cells #[.int .i64 many, .int .i64 stage, .int .u64 ballot, .int .u64 first, .int .u64 next, .slice po prom.length pc, .slice ko kn.length kc, .slice oo op.length oc] 66) = W4 at *
  obtain ⟨s0, s1, s2, s3, s4, s5, s6, s7⟩ := cells8 k1
  refine bodyPost_ret (v := .tuple #[.agg #[.int .i64 many, .int .i64 stage, .int .u64 ballot, .int .u64 first, .int .u64 next, .slice po prom.length pc, .slice ko kn.length kc, .slice oo op.length oc], .int .i64 32]) (by simp [results, Try.results32, go_sem, s0, s1, s2, s3, s4, s5, s6, s7]) rfl ?_
  exact ⟨rfl, HB.out⟩
set_option maxHeartbeats 2000000 in
theorem rbegin_ok {S : Nat → Prop} {w : World} {R : RL} {pv kv ov : Value} (h : RLs S w R pv kv ov) {b f : Int} (hb : R.ballot < b) : Calls Try.prog 32 #[rlV R pv kv ov, .int .u64 b, .int .u64 f] w fun e w' => e = .returned (.tuple #[rlV (rBegin R b f) (.slice none 0 0) (.slice none 0 0) (.slice none 0 0), .int .i64 0]) ∧ Below w.heap.size w w' := by
  obtain ⟨po, pc, ko, kc, oo, oc, rfl, rfl, rfl, a1, a2, b1, b2, c1, c2⟩ := h.forms
  unfold rlV
  obtain ⟨many, stage, ballot, first, next, prom, kn, op⟩ := R
  simp only at *
  have hbd : decide (b ≤ ballot) = false := decide_eq_false (by omega)
  clear h
  go_enter Try.func32, Try.ntmps32
  go_wp2_with fail
  obtain ⟨k0, k1, k2, hB⟩ := two_new w (.cells #[.int .i64 many, .int .i64 stage, .int .u64 ballot, .int .u64 first, .int .u64 next, .slice po prom.length pc, .slice ko kn.length kc, .slice oo op.length oc] 66) (.cells #[.int .i64 many, .int .i64 1, .int .u64 b, .int .u64 f, .int .u64 0, .slice none 0 0, .slice none 0 0, .slice none 0 0] 66)
  have HB := Lib.hid hB
  generalize (w.alloc (.cells #[.int .i64 many, .int .i64 stage, .int .u64 ballot, .int .u64 first, .int .u64 next, .slice po prom.length pc, .slice ko kn.length kc, .slice oo op.length oc] 66)).alloc (.cells #[.int .i64 many, .int .i64 1, .int .u64 b, .int .u64 f, .int .u64 0, .slice none 0 0, .slice none 0 0, .slice none 0 0] 66) = W4 at *
  obtain ⟨s0, s1, s2, s3, s4, s5, s6, s7⟩ := cells8 k1
  refine bodyPost_ret (v := .tuple #[.agg #[.int .i64 many, .int .i64 1, .int .u64 b, .int .u64 f, .int .u64 0, .slice none 0 0, .slice none 0 0, .slice none 0 0], .int .i64 0]) (by simp [results, Try.results32, go_sem, s0, s1, s2, s3, s4, s5, s6, s7]) rfl ?_
  exact ⟨rfl, HB.out⟩
set_option maxHeartbeats 2000000 in
theorem rstop_any {S : Nat → Prop} {w : World} {R : RL} {pv kv ov : Value} (h : RLs S w R pv kv ov) : Calls Try.prog 42 #[rlV R pv kv ov] w fun e w' => e = .returned (rlV (rStop R) pv kv (.slice none 0 0)) ∧ Below w.heap.size w w' := by
  obtain ⟨po, pc, ko, kc, oo, oc, rfl, rfl, rfl, a1, a2, b1, b2, c1, c2⟩ := h.forms
  unfold rlV
  obtain ⟨many, stage, ballot, first, next, prom, kn, op⟩ := R
  simp only at *
  clear h
  go_enter Try.func42, Try.ntmps42
  go_wp2_with fail
  obtain ⟨k0, k1, k2, hB⟩ := two_new w (.cells #[.int .i64 many, .int .i64 0, .int .u64 ballot, .int .u64 first, .int .u64 next, .slice po prom.length pc, .slice ko kn.length kc, .slice none 0 0] 66) (.cells #[.int .i64 many, .int .i64 0, .int .u64 ballot, .int .u64 first, .int .u64 next, .slice po prom.length pc, .slice ko kn.length kc, .slice none 0 0] 66)
  have HB := Lib.hid hB
  generalize (w.alloc (.cells #[.int .i64 many, .int .i64 0, .int .u64 ballot, .int .u64 first, .int .u64 next, .slice po prom.length pc, .slice ko kn.length kc, .slice none 0 0] 66)).alloc (.cells #[.int .i64 many, .int .i64 0, .int .u64 ballot, .int .u64 first, .int .u64 next, .slice po prom.length pc, .slice ko kn.length kc, .slice none 0 0] 66) = W4 at *
  obtain ⟨s0, s1, s2, s3, s4, s5, s6, s7⟩ := cells8 k1
  refine bodyPost_ret (v := .agg #[.int .i64 many, .int .i64 0, .int .u64 ballot, .int .u64 first, .int .u64 next, .slice po prom.length pc, .slice ko kn.length kc, .slice none 0 0]) (by simp [results, Try.results42, go_sem, s0, s1, s2, s3, s4, s5, s6, s7]) rfl ?_
  exact ⟨rfl, HB.out⟩
set_option maxHeartbeats 2000000 in
theorem rin_any {w : World} {v : Value} {l : List Int} (x : Int) (h : SlR w v (i64s l)) : Calls Try.prog 59 #[v, .int .i64 x] w fun e w' => e = .returned (.bool (decide (x ∈ l))) ∧ w = w' := by
  obtain ⟨ao, c, rfl, hc, hm⟩ := h.form
  simp only [i64s, List.length_map] at hc ⊢
  have H := Lib.hid h
  clear h
  have F1 : Hid ((∀ j : Nat, j < l.length → ∀ y, l[j]? = some y → y ≠ x) → decide (x ∈ l) = false) := Lib.hid (fun hh => decide_eq_false (fun hm => by
    obtain ⟨i, hi, e⟩ := List.getElem_of_mem hm
    exact hh i hi _ (List.getElem?_eq_getElem hi) e))
  have F2 : Hid (∀ (j : Nat), l[j]? = some x → decide (x ∈ l) = true) := Lib.hid (fun j hj => decide_eq_true (List.mem_of_getElem? hj))
  generalize decide (x ∈ l) = B at *
  go_enter Try.func59, Try.ntmps59
  go_wp2_with fail
  go_loopw [5] (fun i wr => ∃ k : Nat, k ≤ l.length ∧ i = .int .i64 k ∧ (∀ j : Nat, j < k → ∀ y, l[j]? = some y → y ≠ x) ∧ w = wr) (fun i _ => l.length - (intOf i).toNat)
  case atStart => exact ⟨0, by omega, rfl, by intro j hj; omega, rfl⟩
  case round =>
    obtain ⟨k, hk, rfl, hno, rfl⟩ := hrel
    have HNo := Lib.hid hno
    clear hno
    by_cases hlt : k < l.length
    · have hx := List.getElem?_eq_getElem hlt
      obtain ⟨_, _, hv, _, _, hxx⟩ := H.out
      cases hv
      obtain ⟨a, rfl, hcell⟩ := hxx k (.int .i64 l[k]) (by simp [i64s, hx])
      generalize l[k] = y at *
      have hki : (k : Int) < (l.length : Int) := by omega
      have HX := Lib.hid hx
      clear hx hxx
      by_cases hyx : y = x
      · subst hyx
        have hBt : B = true := F2.out k HX.out
        subst hBt
        go_wp2_with fail
        go_ret
        exact ⟨rfl, rfl⟩
      · have hyd : (y == x) = false := by simpa using hyx
        go_wp2_with fail
        go_roundw
        case rel =>
          refine ⟨k + 1, by omega, by go_num, fun j hj z hz => ?_, by trivial⟩
          by_cases e : j = k
          · subst e; rw [HX.out] at hz; cases hz; exact hyx
          · exact HNo.out j (by omega) z hz
        case measure => simp [intOf]; omega
    · have hBf : B = false := F1.out (fun j hj y hy => HNo.out j (by omega) y hy)
      subst hBf
      go_wp2_with fail
      go_ret
      exact ⟨rfl, rfl⟩
set_option maxHeartbeats 2000000 in
theorem rfind_any {w : World} {v : Value} {l : List Vt} (x : Int) (h : RfL w v l) : Calls Try.prog 60 #[v, .int .u64 x] w fun e w' => (∃ i, e = .returned (.int .i64 i) ∧ FindI l x i) ∧ w = w' := by
  have H := Lib.hid h
  obtain ⟨ao, c, rfl, hc, hm, _⟩ := h
  go_enter Try.func60, Try.ntmps60
  go_wp2_with fail
  go_loopw [5] (fun i wr => ∃ k : Nat, k ≤ l.length ∧ i = .int .i64 k ∧ (∀ (j : Nat) y, j < k → l[j]? = some y → y.slot ≠ x) ∧ w = wr) (fun i _ => l.length - (intOf i).toNat)
  case atStart => exact ⟨0, by omega, rfl, by intro j y hj; omega, rfl⟩
  case round =>
    obtain ⟨k, hk, rfl, hno, rfl⟩ := hrel
    have HNo := Lib.hid hno
    clear hno
    by_cases hlt : k < l.length
    · have hx := List.getElem?_eq_getElem hlt
      obtain ⟨_, _, hv, _, _, hxx⟩ := H.out
      cases hv
      obtain ⟨a, rfl, c0, c1, c2⟩ := hxx k _ hx
      generalize l[k] = y at *
      have hki : (k : Int) < (l.length : Int) := by omega
      have HX := Lib.hid hx
      clear hx hxx
      by_cases hyx : y.slot = x
      · have hyd : (y.slot == x) = true := by simpa using hyx
        have HY := Lib.hid hyx
        clear hyx
        go_wp2_with fail
        go_ret
        exact ⟨⟨_, rfl, Or.inr ⟨k, y, rfl, HX.out, look_at HX.out HY.out (fun j z hj hz => HNo.out j z hj hz), HNo.out⟩⟩, rfl⟩
      · have hyd : (y.slot == x) = false := by simpa using hyx
        have HY := Lib.hid hyx
        clear hyx
        go_wp2_with fail
        go_roundw
        case rel =>
          refine ⟨k + 1, by omega, by go_num, fun j z hj hz => ?_, by trivial⟩
          by_cases e : j = k
          · subst e; rw [HX.out] at hz; cases hz; exact HY.out
          · exact HNo.out j z (by omega) hz
        case measure => simp [intOf]; omega
    · have hn : look l x = none := by
        unfold look
        rw [List.find?_eq_none]
        intro v hv
        obtain ⟨i, hi, rfl⟩ := List.getElem_of_mem hv
        simpa using HNo.out i _ (by omega) (List.getElem?_eq_getElem hi)
      have HN := Lib.hid hn
      clear hn
      go_wp2_with fail
      go_ret
      exact ⟨⟨_, rfl, Or.inl ⟨rfl, HN.out⟩⟩, rfl⟩
end Go.Proofs.Ytjdjfhioobhcjaa

namespace Go.Proofs.Ytjdjfhioobhcjaa
open Go.ChangeShapes Go.WideShapes Go.ChangeAt Go.RowKit Go.Maps Go.Shelf
set_option maxRecDepth 100000

theorem Try.roInfo : (Try.prog.info? 124).map (fun i => (i.zero, i.size, i.bytes)) = some (some (.agg #[.int .u64 0, .int .u64 0, .string ⟨#[]⟩, .slice none 0 0]), 4, 56) := by kernel_rfl
theorem SepW.blkSet8 {W w : World} {os : List Ob} (h : SepW W w os) {b : Nat} {a0 a1 a2 a3 a4 a5 a6 a7 : Value} {t : TypeId} (i : Nat) (hi : os[i]? = some (obBlk b (.cells #[a0, a1, a2, a3, a4, a5, a6, a7] t))) (v0 v1 v2 v3 v4 v5 v6 v7 : Value) :
    SepW W ((((((((w.setCell ⟨b, 0, none⟩ v0).setCell ⟨b, 1, none⟩ v1).setCell ⟨b, 2, none⟩ v2).setCell ⟨b, 3, none⟩ v3).setCell ⟨b, 4, none⟩ v4).setCell ⟨b, 5, none⟩ v5).setCell ⟨b, 6, none⟩ v6).setCell ⟨b, 7, none⟩ v7) (os.set i (obBlk b (.cells #[v0, v1, v2, v3, v4, v5, v6, v7] t))) := by
  have hlt : i < os.length := (List.getElem?_eq_some_iff.1 hi).1
  have g : ∀ (o : Ob) (l : List Ob), l.length = os.length → (l.set i o)[i]? = some o := fun o l hl => by rw [List.getElem?_set_self (by omega)]
  have h0 := h.blkSet i hi 0 v0
  have h1 := h0.blkSet i (g _ _ rfl) 1 v1
  have h2 := h1.blkSet i (g _ _ (by simp)) 2 v2
  have h3 := h2.blkSet i (g _ _ (by simp)) 3 v3
  have h4 := h3.blkSet i (g _ _ (by simp)) 4 v4
  have h5 := h4.blkSet i (g _ _ (by simp)) 5 v5
  have h6 := h5.blkSet i (g _ _ (by simp)) 6 v6
  have h7 := h6.blkSet i (g _ _ (by simp)) 7 v7
  simpa using h7
theorem rfC_three (s : Vt) : ∀ u ∈ (#[.int .u64 s.slot, .int .u64 s.ballot, .string (strB s.val)] : Array Value).toList, u.oneCell' = true := by
  intro u hu; simp at hu; rcases hu with rfl | rfl | rfl <;> rfl
set_option maxHeartbeats 2000000 in
theorem ropens_any {S : Nat → Prop} {w : World} {R : RL} {pv kv ov : Value} (h : RLs S w R pv kv ov) (hl : R.op.length ≤ 1000000) : Calls Try.prog 46 #[rlV R pv kv ov] w (RetRf w (R.op.map (·.v))) := by
  obtain ⟨po, pc, ko, kc, oo, oc, rfl, rfl, rfl, a1, a2, b1, b2, c1, c2⟩ := h.forms
  have H := Lib.hid h
  unfold rlV
  obtain ⟨many, stage, ballot, first, next, prom, kn, op⟩ := R
  simp only at *
  clear h
  obtain ⟨i0, hi, hz0, hz1, hz2⟩ := info_parts Try.rvInfo
  go_enter Try.func46, Try.ntmps46
  go_wp2_with fail
  have k0 := heap_alloc_new w (.cells #[.int .i64 many, .int .i64 stage, .int .u64 ballot, .int .u64 first, .int .u64 next, .slice po prom.length pc, .slice ko kn.length kc, .slice oo op.length oc] 66)
  have hB := (Below.refl w.heap.size w).alloc (Nat.le_refl _) (.cells #[.int .i64 many, .int .i64 stage, .int .u64 ballot, .int .u64 first, .int .u64 next, .slice po prom.length pc, .slice ko kn.length kc, .slice oo op.length oc] 66)
  have hz : (w.alloc (.cells #[.int .i64 many, .int .i64 stage, .int .u64 ballot, .int .u64 first, .int .u64 next, .slice po prom.length pc, .slice ko kn.length kc, .slice oo op.length oc] 66)).heap.size = w.heap.size + 1 := by simp
  have HB := Lib.hid hB
  have HK0 := Lib.hid k0
  generalize w.alloc (.cells #[.int .i64 many, .int .i64 stage, .int .u64 ballot, .int .u64 first, .int .u64 next, .slice po prom.length pc, .slice ko kn.length kc, .slice oo op.length oc] 66) = w2 at *
  clear hB k0
  go_loopw [4, 3] (fun i ov wr => ∃ (k : Nat) (o : Option Addr) (c : Nat), k ≤ op.length ∧ i = .int .i64 k ∧ ov = .slice o k c ∧ wr.ownsRow w2.heap.size 56 3 (.slice o k c) k (rfC ((op.take k).map (·.v))) ∧ Below w2.heap.size w2 wr) (fun i _ _ => op.length - (intOf i).toNat)
  case atStart => exact ⟨0, none, 0, by omega, rfl, rfl, by simpa [rfC] using World.ownsRow_nil _ _ _ _, Below.refl _ _⟩
  case round =>
    obtain ⟨k, o, c, hk, rfl, rfl, hown, hbl⟩ := hrel
    have HO := Lib.hid hown
    have HB2 := Lib.hid hbl
    have HBw := Lib.hid (HB.out.trans (hbl.mono (by omega)))
    have k0 := (hbl.block w.heap.size (by omega)).trans HK0.out
    obtain ⟨e0, e1, e2, e3, e4, e5, e6, e7⟩ := cells8 k0
    have hk40 : k ≤ 1099511627776 := by omega
    clear hown hbl k0 e0 e1 e2 e3 e4 e5 e6
    by_cases hlt : k < op.length
    · have hki : (k : Int) < (op.length : Int) := by omega
      have hx := List.getElem?_eq_getElem hlt
      obtain ⟨a, so, sc, rfl, x0, x1, x2, x3, _⟩ := (H.out.o.keep (Below.keep0 (fun _ => False) HBw.out) (fun _ hf => hf.elim)).at k _ hx
      have HT : Hid ((op.take (k + 1)).map (·.v) = (op.take k).map (·.v) ++ [op[k].v]) := Lib.hid (by rw [List.take_succ_eq_append_getElem hlt, List.map_append]; rfl)
      generalize op[k] = q at *
      obtain ⟨⟨qs, qb, qv⟩, qw⟩ := q
      try simp only at x0 x1 x2 x3
      have HU := Lib.hid (rfC_three ⟨qs, qb, qv⟩)
      clear hx x3
      go_wp2_with (first
        | (at_builtin; (refine wpList_appS rfl (.tmp 12) (.tmp 19) 46 rfl w2.heap.size 56 i0 _ 3 32 Try.underlying46 hi hz0 hz1 hz2 rfl (by decide) (by decide) rfl rfl rfl rfl HO.out HU.out hk40 HB2.out.size ?_)
           intro g7 cap7 w7 hown7 hg7 hor7
           have HO7 := Lib.hid hown7
           have HG7 := Lib.hid hg7
           clear hown7 hg7 hor7)
        | fail)
      have hb7 := (HB2.out.alloc HB2.out.size (.cells #[.int .u64 qs, .int .u64 qb, .string (strB qv)] 56)).grown HG7.out (by simp; exact Nat.le_succ_of_le HB2.out.size) (fun q hq => (HO.out.lt q hq).1)
      have HB7 := Lib.hid hb7
      clear hb7
      go_roundw
      case rel => exact ⟨k + 1, _, _, by omega, by go_num, rfl, by rw [HT.out, rfC_snoc]; exact HO7.out, HB7.out⟩
      case measure => simp [intOf]; omega
    · have hkl : k = op.length := by omega
      subst hkl
      have HO9 := HO.out
      rw [List.take_length] at HO9
      have HO9 := Lib.hid (HO9.weaken (base' := w.heap.size) (by omega))
      go_wp2_with fail
      go_ret
      exact ⟨o, c, by rw [List.length_map]; rfl, by rw [List.length_map]; exact HO9.out, HBw.out⟩
end Go.Proofs.Ytjdjfhioobhcjaa

namespace Go.Proofs.Ytjdjfhioobhcjaa
open Go.ChangeShapes Go.WideShapes Go.ChangeAt Go.RowKit Go.Maps Go.Shelf
set_option maxRecDepth 100000

theorem RLs.turnOp {S : Nat → Prop} {w w' : World} {R R' : RL} {pv kv ov : Value} (h : RLs S w R pv kv ov) (hb : Below w.heap.size w w') (hp : R'.prom = R.prom) (hk : R'.kn = R.kn) {v : Value} {vs : List Value} {e : TypeId}
    (hown : w'.ownsRow 0 e 4 v R'.op.length vs) (hlo : ∀ k, v.ownBlock = some k → w.heap.size ≤ k) (hoc : OC (New S w w') w' vs R'.op) : RLs (New S w w') w' R' pv kv v := by
  have h' := h.below hb
  exact ⟨by rw [hp]; exact h'.p, h'.po, by rw [hk]; exact h'.k, h'.ko, ⟨vs, FlR.of_own hown (by decide), hoc, fun k hk => Or.inr ⟨hlo k hk, (hown.lt k hk).2⟩⟩, h'.lt⟩
theorem OC.below {S : Nat → Prop} {w w' : World} {vs : List Value} {os : List RO} (h : OC S w vs os) (hb : Below w.heap.size w w') : OC (New S w w') w' vs os :=
  (h.keep (Below.keep0 (fun _ => False) hb) (fun _ hf => hf.elim)).mono (fun _ hs => Or.inl hs)
def rvV (v : Vt) : Value := .agg #[.int .u64 v.slot, .int .u64 v.ballot, .string (strB v.val)]
def rvZ : Value := .agg #[.int .u64 0, .int .u64 0, .string ⟨#[]⟩]
set_option maxHeartbeats 2000000 in
theorem rprop_state {S : Nat → Prop} {w : World} {R : RL} {pv kv ov sv : Value} (h : RLs S w R pv kv ov) (hs : R.stage ≠ 2) : Calls Try.prog 37 #[rlV R pv kv ov, sv] w fun e w' => e = .returned (.tuple #[rlV R pv kv ov, rvZ, .int .i64 33]) ∧ Below w.heap.size w w' := by
  unfold rvZ
  obtain ⟨po, pc, ko, kc, oo, oc, rfl, rfl, rfl, a1, a2, b1, b2, c1, c2⟩ := h.forms
  have H := Lib.hid h
  unfold rlV
  obtain ⟨many, stage, ballot, first, next, prom, kn, op⟩ := R
  simp only at *
  clear h
  have hsd : (stage != 2) = true := by simpa using hs
  go_enter Try.func37, Try.ntmps37
  go_wp2_with fail
  obtain ⟨k0, k1, k2, k3, hB⟩ := three_new w (.cells #[.int .i64 many, .int .i64 stage, .int .u64 ballot, .int .u64 first, .int .u64 next, .slice po prom.length pc, .slice ko kn.length kc, .slice oo op.length oc] 66) (.cells #[.int .i64 many, .int .i64 stage, .int .u64 ballot, .int .u64 first, .int .u64 next, .slice po prom.length pc, .slice ko kn.length kc, .slice oo op.length oc] 66) (.cells #[.int .u64 0, .int .u64 0, .string ⟨#[]⟩] 56)
  have HB := Lib.hid hB
  generalize ((w.alloc (.cells #[.int .i64 many, .int .i64 stage, .int .u64 ballot, .int .u64 first, .int .u64 next, .slice po prom.length pc, .slice ko kn.length kc, .slice oo op.length oc] 66)).alloc (.cells #[.int .i64 many, .int .i64 stage, .int .u64 ballot, .int .u64 first, .int .u64 next, .slice po prom.length pc, .slice ko kn.length kc, .slice oo op.length oc] 66)).alloc (.cells #[.int .u64 0, .int .u64 0, .string ⟨#[]⟩] 56) = W4 at *
  obtain ⟨s0, s1, s2, s3, s4, s5, s6, s7⟩ := cells8 k1
  obtain ⟨v0, v1, v2⟩ := cells3 k2
  refine bodyPost_ret (v := .tuple #[.agg #[.int .i64 many, .int .i64 stage, .int .u64 ballot, .int .u64 first, .int .u64 next, .slice po prom.length pc, .slice ko kn.length kc, .slice oo op.length oc], .agg #[.int .u64 0, .int .u64 0, .string ⟨#[]⟩], .int .i64 33]) (by simp [results, Try.results37, go_sem, s0, s1, s2, s3, s4, s5, s6, s7, v0, v1, v2]) rfl ?_
  exact ⟨rfl, HB.out⟩
set_option maxHeartbeats 2000000 in
theorem rprop_worn {S : Nat → Prop} {w : World} {R : RL} {pv kv ov sv : Value} (h : RLs S w R pv kv ov) (hs : R.stage = 2) (hn : R.next = 18446744073709551615) : Calls Try.prog 37 #[rlV R pv kv ov, sv] w fun e w' => e = .returned (.tuple #[rlV R pv kv ov, rvZ, .int .i64 37]) ∧ Below w.heap.size w w' := by
  unfold rvZ
  obtain ⟨po, pc, ko, kc, oo, oc, rfl, rfl, rfl, a1, a2, b1, b2, c1, c2⟩ := h.forms
  have H := Lib.hid h
  unfold rlV
  obtain ⟨many, stage, ballot, first, next, prom, kn, op⟩ := R
  simp only at *
  clear h
  subst hs
  subst hn
  go_enter Try.func37, Try.ntmps37
  go_wp2_with fail
  obtain ⟨k0, k1, k2, k3, hB⟩ := three_new w (.cells #[.int .i64 many, .int .i64 2, .int .u64 ballot, .int .u64 first, .int .u64 18446744073709551615, .slice po prom.length pc, .slice ko kn.length kc, .slice oo op.length oc] 66) (.cells #[.int .i64 many, .int .i64 2, .int .u64 ballot, .int .u64 first, .int .u64 18446744073709551615, .slice po prom.length pc, .slice ko kn.length kc, .slice oo op.length oc] 66) (.cells #[.int .u64 0, .int .u64 0, .string ⟨#[]⟩] 56)
  have HB := Lib.hid hB
  generalize ((w.alloc (.cells #[.int .i64 many, .int .i64 2, .int .u64 ballot, .int .u64 first, .int .u64 18446744073709551615, .slice po prom.length pc, .slice ko kn.length kc, .slice oo op.length oc] 66)).alloc (.cells #[.int .i64 many, .int .i64 2, .int .u64 ballot, .int .u64 first, .int .u64 18446744073709551615, .slice po prom.length pc, .slice ko kn.length kc, .slice oo op.length oc] 66)).alloc (.cells #[.int .u64 0, .int .u64 0, .string ⟨#[]⟩] 56) = W4 at *
  obtain ⟨s0, s1, s2, s3, s4, s5, s6, s7⟩ := cells8 k1
  obtain ⟨v0, v1, v2⟩ := cells3 k2
  refine bodyPost_ret (v := .tuple #[.agg #[.int .i64 many, .int .i64 2, .int .u64 ballot, .int .u64 first, .int .u64 18446744073709551615, .slice po prom.length pc, .slice ko kn.length kc, .slice oo op.length oc], .agg #[.int .u64 0, .int .u64 0, .string ⟨#[]⟩], .int .i64 37]) (by simp [results, Try.results37, go_sem, s0, s1, s2, s3, s4, s5, s6, s7, v0, v1, v2]) rfl ?_
  exact ⟨rfl, HB.out⟩
set_option maxHeartbeats 4000000 in
theorem rprop_ok {S : Nat → Prop} {w : World} {R : RL} {pv kv ov : Value} {xs : List Int} (h : RLs S w R pv kv ov) (hs : R.stage = 2) (hn : R.next ≠ 18446744073709551615) (hn1 : 0 ≤ R.next ∧ R.next ≤ 18446744073709551615) (hl : R.op.length ≤ 1000000) : Calls Try.prog 37 #[rlV R pv kv ov, .string (strB xs)] w fun e w' =>
    ∃ ov', e = .returned (.tuple #[rlV (rProp R xs) pv kv ov', rvV ⟨R.next, R.ballot, xs⟩, .int .i64 0]) ∧ RLs (New S w w') w' (rProp R xs) pv kv ov' ∧ Below w.heap.size w w' := by
  unfold rvV
  obtain ⟨po, pc, ko, kc, oo, oc, rfl, rfl, rfl, a1, a2, b1, b2, c1, c2⟩ := h.forms
  have H := Lib.hid h
  unfold rlV
  obtain ⟨many, stage, ballot, first, next, prom, kn, op⟩ := R
  simp only at *
  clear h
  subst hs
  have hnd : (next == 18446744073709551615) = false := by simpa using hn
  obtain ⟨i0, hi, hz0, hz1, hz2⟩ := info_parts Try.roInfo
  obtain ⟨vs, hfl, hoc, how⟩ := H.out.o
  have HFl : Hid (FlR w (.slice oo op.length oc) op.length vs) := Lib.hid hfl
  have HOc : Hid (OC S w vs op) := Lib.hid hoc
  have HOne := Lib.hid hoc.one
  have HLen : Hid (vs.length = op.length * 4) := Lib.hid hoc.1
  clear hfl hoc how
  go_enter Try.func37, Try.ntmps37
  have hsW : SepW w ((((w.alloc (.cells #[.int .i64 many, .int .i64 2, .int .u64 ballot, .int .u64 first, .int .u64 next, .slice po prom.length pc, .slice ko kn.length kc, .slice oo op.length oc] 66)).alloc (.cells #[.int .i64 0, .int .i64 0, .int .u64 0, .int .u64 0, .int .u64 0, .slice none 0 0, .slice none 0 0, .slice none 0 0] 66)).alloc (.cells #[.int .u64 0, .int .u64 0, .string ⟨#[]⟩] 56)).alloc (.cells #[.int .u64 next, .int .u64 ballot, .string (strB xs)] 56)) _ := ((((SepW.nil (Below.refl _ w)).newBlk #[.int .i64 many, .int .i64 2, .int .u64 ballot, .int .u64 first, .int .u64 next, .slice po prom.length pc, .slice ko kn.length kc, .slice oo op.length oc] 66).newBlk #[.int .i64 0, .int .i64 0, .int .u64 0, .int .u64 0, .int .u64 0, .slice none 0 0, .slice none 0 0, .slice none 0 0] 66).newBlk #[.int .u64 0, .int .u64 0, .string ⟨#[]⟩] 56).newBlk #[.int .u64 next, .int .u64 ballot, .string (strB xs)] 56
  have HSW := Lib.hid hsW
  clear hsW
  have hsz : (((w.alloc (.cells #[.int .i64 many, .int .i64 2, .int .u64 ballot, .int .u64 first, .int .u64 next, .slice po prom.length pc, .slice ko kn.length kc, .slice oo op.length oc] 66)).alloc (.cells #[.int .i64 0, .int .i64 0, .int .u64 0, .int .u64 0, .int .u64 0, .slice none 0 0, .slice none 0 0, .slice none 0 0] 66)).alloc (.cells #[.int .u64 0, .int .u64 0, .string ⟨#[]⟩] 56)).heap.size = w.heap.size + 3 := by simp
  have hsz2 : ((w.alloc (.cells #[.int .i64 many, .int .i64 2, .int .u64 ballot, .int .u64 first, .int .u64 next, .slice po prom.length pc, .slice ko kn.length kc, .slice oo op.length oc] 66)).alloc (.cells #[.int .i64 0, .int .i64 0, .int .u64 0, .int .u64 0, .int .u64 0, .slice none 0 0, .slice none 0 0, .slice none 0 0] 66)).heap.size = w.heap.size + 2 := by simp
  have hsz1 : (w.alloc (.cells #[.int .i64 many, .int .i64 2, .int .u64 ballot, .int .u64 first, .int .u64 next, .slice po prom.length pc, .slice ko kn.length kc, .slice oo op.length oc] 66)).heap.size = w.heap.size + 1 := by simp
  go_wp2_with (first
    | (at_builtin; (refine wpList_appFl rfl (.tmp 25) (.tmp 27) 64 rfl ((((w.alloc (.cells #[.int .i64 many, .int .i64 2, .int .u64 ballot, .int .u64 first, .int .u64 next, .slice po prom.length pc, .slice ko kn.length kc, .slice oo op.length oc] 66)).alloc (.cells #[.int .i64 0, .int .i64 0, .int .u64 0, .int .u64 0, .int .u64 0, .slice none 0 0, .slice none 0 0, .slice none 0 0] 66)).alloc (.cells #[.int .u64 0, .int .u64 0, .string ⟨#[]⟩] 56)).alloc (.cells #[.int .u64 next, .int .u64 ballot, .string (strB xs)] 56)).heap.size 124 i0 _ 4 56 Try.underlying64 hi hz0 hz1 hz2 rfl (by decide) (by decide) rfl rfl (World.ownsRow_nil _ _ _ _) (HFl.out.below HSW.out.below (Nat.le_refl _)) HLen.out HOne.out (by omega) (Nat.le_refl _) ?_)
       intro v7 w7 hown7 hb7 hbo7 hk7
       go_loud (rw [Nat.zero_add, List.nil_append] at hown7)
       go_loud (have HS7 := Lib.hid (HSW.out.newRow hown7 hb7))
       obtain ⟨o7, cp7, rfl, hc7, hm7⟩ := own_form hown7
       go_loud (have x0 : w7.cell? ⟨w.heap.size + 3, 0, none⟩ = some (.int .u64 next) := by have := (HS7.out.blk 1 (by rw [hsz]; rfl) 0 _ rfl).1; exact this)
       go_loud (have x1 : w7.cell? ⟨w.heap.size + 3, 1, none⟩ = some (.int .u64 ballot) := by have := (HS7.out.blk 1 (by rw [hsz]; rfl) 1 _ rfl).1; exact this)
       go_loud (have x2 : w7.cell? ⟨w.heap.size + 3, 2, none⟩ = some (.string (strB xs)) := by have := (HS7.out.blk 1 (by rw [hsz]; rfl) 2 _ rfl).1; exact this)
       clear hown7 hb7 hbo7 hk7)
    | (at_builtin; (refine wpList_appS rfl (.tmp 29) (.tmp 32) 64 rfl 0 124 i0 _ 4 56 Try.underlying64 hi hz0 hz1 hz2 rfl (by decide) (by decide) rfl rfl rfl rfl (HS7.out.get 0 rfl) (by intro u hu; simp at hu; rcases hu with rfl | rfl | rfl | rfl <;> rfl) (by omega) (Nat.zero_le _) ?_)
       intro g8 cap8 w8 hown8 hg8 hor8
       go_loud (have HS8 := Lib.hid (HS7.out.rowApp 0 rfl hg8 hor8 hown8))
       go_loud (obtain ⟨p0, p1, p2, p3, p4, p5, p6, p7⟩ := cells8 (HS8.out.get 4 rfl : w8.heap[w.heap.size]? = some (.cells #[.int .i64 many, .int .i64 2, .int .u64 ballot, .int .u64 first, .int .u64 next, .slice po prom.length pc, .slice ko kn.length kc, .slice oo op.length oc] 66)))
       go_loud (have pz : ∀ j, w8.frozen? ⟨w.heap.size, j, none⟩ = false := fun j => by have hh : w8.heap[w.heap.size]? = _ := HS8.out.get 4 rfl; simp [World.frozen?, hh])
       clear x0 x1 x2 hown8 hg8 hor8)
    | fail)
  have hs9 := (HS8.out.blkSet 4 rfl 7 (.slice (some ⟨g8, 0, none⟩) (op.length + 1) cap8)).blkSet 4 rfl 4 (.int .u64 (next + 1))
  simp only [List.set_cons_succ, List.set_cons_zero, List.setIfInBounds_toArray] at hs9
  clear p0 p1 p2 p3 p4 p5 p6 p7 pz HS8 HS7
  generalize (w8.setCell ⟨w.heap.size, 7, none⟩ (.slice (some ⟨g8, 0, none⟩) (op.length + 1) cap8)).setCell ⟨w.heap.size, 4, none⟩ (.int .u64 (next + 1)) = w9 at *
  rw [hsz, hsz2, hsz1] at hs9
  have HS9 := Lib.hid hs9
  clear hs9
  obtain ⟨q0, q1, q2, q3, q4, q5, q6, q7⟩ := cells8 (HS9.out.get 4 rfl : w9.heap[w.heap.size]? = some (.cells #[.int .i64 many, .int .i64 2, .int .u64 ballot, .int .u64 first, .int .u64 (next + 1), .slice po prom.length pc, .slice ko kn.length kc, .slice (some ⟨g8, 0, none⟩) (op.length + 1) cap8] 66))
  obtain ⟨x0, x1, x2⟩ := cells3 (HS9.out.get 1 rfl : w9.heap[w.heap.size + 3]? = some (.cells #[.int .u64 next, .int .u64 ballot, .string (strB xs)] 56))
  have rz : ∀ j, w9.frozen? ⟨w.heap.size + 1, j, none⟩ = false := fun j => by have hh : w9.heap[w.heap.size + 1]? = _ := HS9.out.get 3 rfl; simp [World.frozen?, hh]
  have vz : ∀ j, w9.frozen? ⟨w.heap.size + 2, j, none⟩ = false := fun j => by have hh : w9.heap[w.heap.size + 2]? = _ := HS9.out.get 2 rfl; simp [World.frozen?, hh]
  obtain ⟨r0, r1, r2, r3, r4, r5, r6, r7⟩ := cells8 (HS9.out.get 3 rfl : w9.heap[w.heap.size + 1]? = some (.cells #[.int .i64 0, .int .i64 0, .int .u64 0, .int .u64 0, .int .u64 0, .slice none 0 0, .slice none 0 0, .slice none 0 0] 66))
  obtain ⟨v0, v1, v2⟩ := cells3 (HS9.out.get 2 rfl : w9.heap[w.heap.size + 2]? = some (.cells #[.int .u64 0, .int .u64 0, .string ⟨#[]⟩] 56))
  go_region_with (fail)
  all_goals
    go_wp2_with fail
    have hs10 := ((HS9.out.blkSet8 3 rfl (.int .i64 many) (.int .i64 2) (.int .u64 ballot) (.int .u64 first) (.int .u64 (next + 1)) (.slice po prom.length pc) (.slice ko kn.length kc) (.slice (some ⟨g8, 0, none⟩) (op.length + 1) cap8)).blkSet3 2 rfl (.int .u64 next) (.int .u64 ballot) (.string (strB xs))).drew
    clear q0 q1 q2 q3 q4 q5 q6 q7 x0 x1 x2 rz vz r0 r1 r2 r3 r4 r5 r6 r7 v0 v1 v2
    generalize (((((((((((w9.setCell ⟨w.heap.size + 1, 0, none⟩ (.int .i64 many)).setCell ⟨w.heap.size + 1, 1, none⟩ (.int .i64 2)).setCell ⟨w.heap.size + 1, 2, none⟩ (.int .u64 ballot)).setCell ⟨w.heap.size + 1, 3, none⟩ (.int .u64 first)).setCell ⟨w.heap.size + 1, 4, none⟩ (.int .u64 (next + 1))).setCell ⟨w.heap.size + 1, 5, none⟩ (.slice po prom.length pc)).setCell ⟨w.heap.size + 1, 6, none⟩ (.slice ko kn.length kc)).setCell ⟨w.heap.size + 1, 7, none⟩ (.slice (some ⟨g8, 0, none⟩) (op.length + 1) cap8)).setCell ⟨w.heap.size + 2, 0, none⟩ (.int .u64 next)).setCell ⟨w.heap.size + 2, 1, none⟩ (.int .u64 ballot)).setCell ⟨w.heap.size + 2, 2, none⟩ (.string (strB xs))).drew = W4 at *
    have HS10 := Lib.hid hs10
    clear hs10
    obtain ⟨s0, s1, s2, s3, s4, s5, s6, s7⟩ := cells8 (HS10.out.get 3 rfl : W4.heap[w.heap.size + 1]? = some (.cells #[.int .i64 many, .int .i64 2, .int .u64 ballot, .int .u64 first, .int .u64 (next + 1), .slice po prom.length pc, .slice ko kn.length kc, .slice (some ⟨g8, 0, none⟩) (op.length + 1) cap8] 66))
    obtain ⟨v0, v1, v2⟩ := cells3 (HS10.out.get 2 rfl : W4.heap[w.heap.size + 2]? = some (.cells #[.int .u64 next, .int .u64 ballot, .string (strB xs)] 56))
    refine bodyPost_ret (v := .tuple #[.agg #[.int .i64 many, .int .i64 2, .int .u64 ballot, .int .u64 first, .int .u64 (next + 1), .slice po prom.length pc, .slice ko kn.length kc, .slice (some ⟨g8, 0, none⟩) (op.length + 1) cap8], .agg #[.int .u64 next, .int .u64 ballot, .string (strB xs)], .int .i64 0]) (by simp [results, Try.results37, go_sem, s0, s1, s2, s3, s4, s5, s6, s7, v0, v1, v2]) rfl ?_
    have hb := HS10.out.below
    refine ⟨_, rfl, H.out.turnOp (R' := rProp ⟨many, 2, ballot, first, next, prom, kn, op⟩ xs) hb rfl rfl (vs := vs ++ [.int .u64 next, .int .u64 ballot, .string (strB xs), .slice none 0 0]) (by show W4.ownsRow 0 _ 4 _ (op ++ [_]).length _; rw [List.length_append]; exact HS10.out.get 0 rfl) (fun k hk => HS10.out.sep.base _ (List.mem_cons_self ..) k hk) ((HOc.out.below hb).app (OC.single (o := ⟨⟨next, ballot, xs⟩, []⟩) (SlR.nil _) (OwnS.nil _))), hb⟩
end Go.Proofs.Ytjdjfhioobhcjaa
