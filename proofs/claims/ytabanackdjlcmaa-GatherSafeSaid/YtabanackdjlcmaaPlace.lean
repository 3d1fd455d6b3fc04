/-
  Contracts of package fold: Place.
-/
import Derived.Test.YtabanackdjlcmaaFind3
import Derived.Test.YtabanackdjlcmaaRegU
namespace Go.Proofs.Ytabanackdjlcmaa
open Go.ChangeShapes Go.WideShapes Go.ChangeAt Go.RowKit Go.Maps
set_option maxRecDepth 100000

/-- Does a span hold a record? -/
def spHit (shard seg off : Int) (x : Sp) : Bool := decide (x.shard = shard) && (decide (x.seg = seg) && (decide (x.off ≤ off) && decide (off - x.off < x.many)))
theorem place1_any (x : Sp) (shard seg off : Int) (w : World) {B1 B2 B3 : Nat} (c1 : w.cell? ⟨B1, 0, none⟩ = some (.int .i64 shard)) (c2 : w.cell? ⟨B2, 0, none⟩ = some (.int .i64 seg)) (c3 : w.cell? ⟨B3, 0, none⟩ = some (.int .u64 off)) (hx : 0 ≤ x.off) (ho : off ≤ 18446744073709551615) :
    Calls Try.prog 55 #[spV x, .pointer (some ⟨B1, 0, none⟩), .pointer (some ⟨B2, 0, none⟩), .pointer (some ⟨B3, 0, none⟩)] w fun e w' => e = .returned (.bool (spHit shard seg off x)) ∧ Below w.heap.size w w' := by
  obtain ⟨p, sh, sg, xo, mn⟩ := x
  simp only at hx
  have hA := (Below.refl w.heap.size w).alloc (Nat.le_refl _) (.cells #[.int .u64 p, .int .i64 sh, .int .i64 sg, .int .u64 xo, .int .u64 mn] 60)
  have d1 := (hA.cell (World.block_lt_of_cell? w _ c1)).trans c1
  have d2 := (hA.cell (World.block_lt_of_cell? w _ c2)).trans c2
  have d3 := (hA.cell (World.block_lt_of_cell? w _ c3)).trans c3
  have HA := Lib.hid hA
  obtain ⟨R, hR⟩ : ∃ R, R = spHit shard seg off ⟨p, sh, sg, xo, mn⟩ := ⟨_, rfl⟩
  rw [← hR]
  unfold spHit at hR
  simp only at hR
  have HR := Lib.hid hR
  clear hA hR
  by_cases e1 : sh = shard
  · by_cases e2 : sg = seg
    · by_cases e3 : xo ≤ off
      · have hw : IntKind.u64.wrap (off - xo) = off - xo := IntWalk.u64_in _ (by omega)
        have hR2 := HR.out
        rw [decide_eq_true e1, decide_eq_true e2, decide_eq_true e3, Bool.true_and, Bool.true_and, Bool.true_and] at hR2
        subst e1 e2
        subst hR2
        go_enter Try.func55, Try.ntmps55
        go_wp2_with fail
        go_ret
        exact ⟨by first | rfl | simp, HA.out⟩
      · have hR2 := HR.out
        rw [decide_eq_false e3] at hR2
        simp at hR2
        have e4 : decide (xo ≤ off) = false := decide_eq_false e3
        subst e1 e2 hR2
        go_enter Try.func55, Try.ntmps55
        go_wp2_with fail
        go_ret
        exact ⟨by first | rfl | simp, HA.out⟩
    · have hR2 := HR.out
      rw [decide_eq_false e2] at hR2
      simp at hR2
      have e4 : (sg == seg) = false := by simpa using e2
      subst e1 hR2
      go_enter Try.func55, Try.ntmps55
      go_wp2_with fail
      go_ret
      exact ⟨by first | rfl | simp, HA.out⟩
  · have hR2 := HR.out
    rw [decide_eq_false e1] at hR2
    simp at hR2
    have e4 : (sh == shard) = false := by simpa using e1
    subst hR2
    go_enter Try.func55, Try.ntmps55
    go_wp2_with fail
    go_ret
    exact ⟨by first | rfl | simp, HA.out⟩

set_option maxHeartbeats 1000000 in
/-- The first span that holds a record. -/
theorem indexf_any {w : World} {v : Value} {l : List Sp} {shard seg off : Int} (hv : SpL w v l) (hl : l.length ≤ 1000000000) {B1 B2 B3 : Nat} (c1 : w.cell? ⟨B1, 0, none⟩ = some (.int .i64 shard)) (c2 : w.cell? ⟨B2, 0, none⟩ = some (.int .i64 seg)) (c3 : w.cell? ⟨B3, 0, none⟩ = some (.int .u64 off)) (hx : ∀ x ∈ l, 0 ≤ x.off) (ho : off ≤ 18446744073709551615) :
    Calls Try.prog 54 #[v, .func (.func 55) #[] #[.pointer (some ⟨B1, 0, none⟩), .pointer (some ⟨B2, 0, none⟩), .pointer (some ⟨B3, 0, none⟩)]] w
      fun e w' => ∃ i : Int, e = .returned (.int .i64 i) ∧ ((i = -1 ∧ ∀ x ∈ l, spHit shard seg off x = false) ∨ ∃ (k : Nat) (x : Sp), i = k ∧ l[k]? = some x ∧ spHit shard seg off x = true ∧ ∀ (j : Nat) (y : Sp), j < k → l[j]? = some y → spHit shard seg off y = false) ∧ Below w.heap.size w w' := by
  have HV := Lib.hid hv
  have HX := Lib.hid hx
  obtain ⟨ao, c, rfl, hc1, hc2, _⟩ := id hv
  have HC1 := Lib.hid c1
  have HC2 := Lib.hid c2
  have HC3 := Lib.hid c3
  clear hv hx c1 c2 c3
  go_enter Try.func54, Try.ntmps54
  go_wp2_with fail
  go_loopw [8, 5] (fun i _ wr => ∃ k : Nat, k ≤ l.length ∧ i = .int .i64 k ∧ (∀ (j : Nat) (y : Sp), j < k → l[j]? = some y → spHit shard seg off y = false) ∧ Below w.heap.size w wr) (fun i _ _ => l.length - (intOf i).toNat)
  case atStart => exact ⟨0, by omega, rfl, (fun j y hj => by omega), Below.refl _ _⟩
  case round =>
    obtain ⟨k, hk, rfl, hno, hbw⟩ := hrel
    have HNo := Lib.hid hno
    have HB := Lib.hid hbw
    clear hno hbw
    by_cases hlt : k < l.length
    · have hx0 := List.getElem?_eq_getElem hlt
      have hxo := HX.out l[k] (List.getElem_mem hlt)
      generalize l[k] = x at *
      obtain ⟨ad, rfl, q0, q1, q2, q3, q4⟩ := (HV.out.below HB.out (Nat.le_refl _)).at k x hx0
      have HX0 := Lib.hid hx0
      have hki : (k : Int) < (l.length : Int) := by omega
      have HP := Lib.hid (place1_any x shard seg off wr ((HB.out.cell (World.block_lt_of_cell? w _ HC1.out)).trans HC1.out) ((HB.out.cell (World.block_lt_of_cell? w _ HC2.out)).trans HC2.out) ((HB.out.cell (World.block_lt_of_cell? w _ HC3.out)).trans HC3.out) hxo ho)
      clear hx0
      go_wp2_with fail
      refine HP.out.mono ?_
      rintro e w4 ⟨rfl, hb4⟩
      have HB4 := Lib.hid (HB.out.trans (hb4.mono HB.out.size))
      clear hb4 q0 q1 q2 q3 q4
      cases hh : spHit shard seg off x with
      | true =>
        have HH := Lib.hid hh
        clear hh
        go_wp2_with fail
        go_ret
        exact ⟨k, by first | rfl | simp, Or.inr ⟨k, x, rfl, HX0.out, HH.out, HNo.out⟩, HB4.out⟩
      | false =>
        have HH := Lib.hid hh
        clear hh
        go_wp2_with fail
        go_roundw
        case rel => exact ⟨k + 1, by omega, by go_num, (fun j y hj hy => by
          rcases Nat.lt_or_ge j k with h | h
          · exact HNo.out j y h hy
          · have : j = k := by omega
            subst this
            rw [HX0.out] at hy; cases hy; exact HH.out), HB4.out⟩
        case measure => simp [intOf]; omega
    · have hkl : k = l.length := by omega
      subst hkl
      go_wp2_with fail
      go_ret
      exact ⟨-1, by first | rfl | simp, Or.inl ⟨rfl, fun x hx => by
        obtain ⟨j, hj, rfl⟩ := List.getElem_of_mem hx
        exact HNo.out j _ hj (List.getElem?_eq_getElem hj)⟩, HB.out⟩

set_option maxHeartbeats 2000000 in
theorem place_ok {D : Nat → Prop} {w : World} {b0 bs bt N : Nat} {lv : Value} {F : FS} (h : FoldR w D b0 bs bt N lv F) {shard seg off : Int} (hi : IdOk shard) {s : Sh} (hs : F.sh shard = some s) (hs0 : 0 ≤ seg) (hs1 : seg < s.segs) (ho : 0 ≤ off ∧ off ≤ 18446744073709551615) (hl : F.l.length ≤ 1000000000)
    (hx : ∀ x ∈ F.l, 0 ≤ x.off) {k : Nat} {x : Sp} (hk : F.l[k]? = some x) (hh : spHit shard seg off x = true) (hno : ∀ (j : Nat) (y : Sp), j < k → F.l[j]? = some y → spHit shard seg off y = false) (hp : 0 ≤ x.pos ∧ x.pos + off ≤ 18446744073709551615) :
    Calls Try.prog 33 #[.pointer (some ⟨b0, 0, none⟩), .int .i64 shard, .int .i64 seg, .int .u64 off] w fun e w' => e = .returned (.tuple #[.int .u64 (x.pos + off - x.off), .int .i64 0]) ∧ Below w.heap.size w w' := by
  have H := Lib.hid h
  obtain ⟨c0, cl, _⟩ := h.cell
  obtain ⟨f, lo, lc, hf, hfid, hsl, hl1, hl2, _⟩ := h.shAt hi hs
  obtain ⟨l0, l2, hlv, hc1, hc2⟩ := own_form h.own
  subst hlv
  have hb0 := h.heap
  have HK := Lib.hid hk
  have HH := Lib.hid hh
  have HNo := Lib.hid hno
  have HX := Lib.hid hx
  have hofs := hx x (List.mem_of_getElem? hk)
  have hit : x.off ≤ off := by unfold spHit at hh; simp at hh; exact hh.2.2.1
  obtain ⟨W1, hW1⟩ : ∃ W1, W1 = ((w.alloc (.cells #[.int .i64 shard] 3)).alloc (.cells #[.int .i64 seg] 3)).alloc (.cells #[.int .u64 off] 39) := ⟨_, rfl⟩
  have hb1 : Below w.heap.size w W1 := by rw [hW1]; exact (((Below.refl _ _).alloc (Nat.le_refl _) _).alloc (by simp) _).alloc (by simp; omega) _
  have HB1 := Lib.hid hb1
  have k1 : W1.heap[w.heap.size]? = some (.cells #[.int .i64 shard] 3) := by
    rw [hW1, Below.heap_alloc _ _ _ (by simp; omega), Below.heap_alloc _ _ _ (by simp)]; exact heap_alloc_new w _
  have k2 : W1.heap[w.heap.size + 1]? = some (.cells #[.int .i64 seg] 3) := by
    rw [hW1, Below.heap_alloc _ _ _ (by simp)]
    have := heap_alloc_new (w.alloc (.cells #[.int .i64 shard] 3)) (.cells #[.int .i64 seg] 3)
    rwa [show (w.alloc (.cells #[.int .i64 shard] 3)).heap.size = w.heap.size + 1 by simp] at this
  have k3 : W1.heap[w.heap.size + 1 + 1]? = some (.cells #[.int .u64 off] 39) := by
    rw [hW1]
    have := heap_alloc_new ((w.alloc (.cells #[.int .i64 shard] 3)).alloc (.cells #[.int .i64 seg] 3)) (.cells #[.int .u64 off] 39)
    rwa [show ((w.alloc (.cells #[.int .i64 shard] 3)).alloc (.cells #[.int .i64 seg] 3)).heap.size = w.heap.size + 1 + 1 by simp] at this
  have hz1 : w.heap.size < W1.heap.size ∧ w.heap.size + 1 < W1.heap.size ∧ w.heap.size + 1 + 1 < W1.heap.size := ⟨(Array.getElem?_eq_some_iff.1 k1).1, (Array.getElem?_eq_some_iff.1 k2).1, (Array.getElem?_eq_some_iff.1 k3).1⟩
  have HK1 := Lib.hid k1
  have HK2 := Lib.hid k2
  have HK3 := Lib.hid k3
  have HZ1 := Lib.hid hz1
  have HAll : Hid (∀ W', Below W1.heap.size W1 W' → (W'.cell? ⟨b0, 0, none⟩ = some (.map (some bs)) ∧ W'.cell? ⟨w.heap.size, 0, none⟩ = some (.int .i64 shard) ∧ (Instr.lookup 86 (.map (some bs)) (.int .i64 shard) true).run Try.prog W' = .ok (.tuple #[.agg #[.int .i64 s.id, .int .i64 s.segs, .slice lo s.lens.length lc, .bool s.fin], .bool true]) W')) := Lib.hid (fun W' hW' => by
    have hbb := HB1.out.trans (hW'.mono HB1.out.size)
    refine ⟨(hbb.cell (p := ⟨b0, 0, none⟩) hb0).trans c0, World.news_of_block ((hW'.block _ HZ1.out.1).trans HK1.out) 0 _ rfl, ?_⟩
    have hl := shlook_two (hf.same (hbb.block bs hf.lt)) hi
    rw [hfid] at hl
    exact hl)
  clear h hs hf hfid hsl hk hh hno hx k1 k2 k3 hb1 hz1
  go_enter Try.func33, Try.ntmps33
  go_wp2_with fail
  rw [← hW1]
  clear hW1
  refine wp_region_noPanic ?_
  refine wp_region_U (fun w' => w'.cell? ⟨b0, 0, none⟩ = some (.map (some bs)) ∧ w'.cell? ⟨w.heap.size, 0, none⟩ = some (.int .i64 shard) ∧ (Instr.lookup 86 (.map (some bs)) (.int .i64 shard) true).run Try.prog w' = .ok (.tuple #[.agg #[.int .i64 s.id, .int .i64 s.segs, .slice lo s.lens.length lc, .bool s.fin], .bool true]) w') (fun w' => True) 99 (by kernel_rfl) ?_
  have hS0 := HAll.out _ ((Below.refl _ W1).drew)
  have hS1 : True := trivial
  refine wpAnyU_take (i := 0) (v := ?_) false (by simp only [List.getElem?_toArray, List.getElem?_cons_zero]; rfl) (by kernel_rfl) (by kernel_rfl) (by kernel_rfl) (fun _ _ _ h => h) (by kernel_rfl) (by decide) (Or.inl ⟨by rfl, ?_⟩) ⟨hS0, (fun _ => hS1)⟩ ?_
  rotate_left
  · rintro w ⟨hSw, hSx⟩
    (try dsimp only at hSw)
    clear hSx
    go_simp
    first | done | with_reducible rfl
  (try simp only [Act.put, List.setIfInBounds_toArray, List.set_cons_zero, List.set_cons_succ])
  refine wpAnyU_take (i := 1) (v := ?_) false (by simp only [List.getElem?_toArray, List.getElem?_cons_succ, List.getElem?_cons_zero]; rfl) (by kernel_rfl) (by kernel_rfl) (by kernel_rfl) (fun _ _ _ h => h) (by kernel_rfl) (by decide) (Or.inl ⟨by rfl, ?_⟩) ⟨hS0, (fun _ => hS1)⟩ ?_
  rotate_left
  · rintro w ⟨hSw, hSx⟩
    (try dsimp only at hSw)
    clear hSx
    go_simp
    first | done | with_reducible rfl
  (try simp only [Act.put, List.setIfInBounds_toArray, List.set_cons_zero, List.set_cons_succ])
  refine wpAnyU_take (i := 2) (v := ?_) false (by simp only [List.getElem?_toArray, List.getElem?_cons_succ, List.getElem?_cons_zero]; rfl) (by kernel_rfl) (by kernel_rfl) (by kernel_rfl) (fun _ _ _ h => h) (by kernel_rfl) (by decide) (Or.inl ⟨by rfl, ?_⟩) ⟨hS0, (fun _ => hS1)⟩ ?_
  rotate_left
  · rintro w ⟨hSw, hSx⟩
    (try dsimp only at hSw)
    clear hSx
    go_simp
    first | done | with_reducible rfl
  (try simp only [Act.put, List.setIfInBounds_toArray, List.set_cons_zero, List.set_cons_succ])
  refine wpAnyU_take (i := 3) (v := ?_) false (by simp only [List.getElem?_toArray, List.getElem?_cons_succ, List.getElem?_cons_zero]; rfl) (by kernel_rfl) (by kernel_rfl) (by kernel_rfl) (fun _ _ _ h => h) (by kernel_rfl) (by decide) (Or.inl ⟨by rfl, ?_⟩) ⟨hS0, (fun _ => hS1)⟩ ?_
  rotate_left
  · rintro w ⟨hSw, hSx⟩
    (try dsimp only at hSw)
    clear hSx
    go_simp
    first | done | with_reducible rfl
  (try simp only [Act.put, List.setIfInBounds_toArray, List.set_cons_zero, List.set_cons_succ])
  refine wpAnyU_take (i := 4) (v := ?_) false (by simp only [List.getElem?_toArray, List.getElem?_cons_succ, List.getElem?_cons_zero]; rfl) (by kernel_rfl) (by kernel_rfl) (by kernel_rfl) (fun _ _ _ h => h) (by kernel_rfl) (by decide) (Or.inl ⟨by rfl, ?_⟩) ⟨hS0, (fun _ => hS1)⟩ ?_
  rotate_left
  · rintro w ⟨hSw, hSx⟩
    (try dsimp only at hSw)
    clear hSx
    go_simp
    first | done | with_reducible rfl
  (try simp only [Act.put, List.setIfInBounds_toArray, List.set_cons_zero, List.set_cons_succ])
  refine wpAnyU_take (i := 5) (v := ?_) false (by simp only [List.getElem?_toArray, List.getElem?_cons_succ, List.getElem?_cons_zero]; rfl) (by kernel_rfl) (by kernel_rfl) (by kernel_rfl) (fun _ _ _ h => h) (by kernel_rfl) (by decide) (Or.inl ⟨by rfl, ?_⟩) ⟨hS0, (fun _ => hS1)⟩ ?_
  rotate_left
  · rintro w ⟨hSw, hSx⟩
    (try dsimp only at hSw)
    clear hSx
    go_simp
    first | done | with_reducible rfl
  (try simp only [Act.put, List.setIfInBounds_toArray, List.set_cons_zero, List.set_cons_succ])
  refine wpAnyU_take (i := 6) (v := ?_) false (by simp only [List.getElem?_toArray, List.getElem?_cons_succ, List.getElem?_cons_zero]; rfl) (by kernel_rfl) (by kernel_rfl) (by kernel_rfl) (fun _ _ _ h => h) (by kernel_rfl) (by decide) (Or.inl ⟨by rfl, ?_⟩) ⟨hS0, (fun _ => hS1)⟩ ?_
  rotate_left
  · rintro w ⟨hSw, hSx⟩
    (try dsimp only at hSw)
    clear hSx
    go_simp
    first | done | with_reducible rfl
  (try simp only [Act.put, List.setIfInBounds_toArray, List.set_cons_zero, List.set_cons_succ])
  refine wpAnyU_take (i := 7) (v := ?_) false (by simp only [List.getElem?_toArray, List.getElem?_cons_succ, List.getElem?_cons_zero]; rfl) (by kernel_rfl) (by kernel_rfl) (by kernel_rfl) (fun _ _ _ h => h) (by kernel_rfl) (by decide) (Or.inl ⟨by rfl, ?_⟩) ⟨hS0, (fun _ => hS1)⟩ ?_
  rotate_left
  · rintro w ⟨hSw, hSx⟩
    (try dsimp only at hSw)
    clear hSx
    go_simp
    first | done | with_reducible rfl
  (try simp only [Act.put, List.setIfInBounds_toArray, List.set_cons_zero, List.set_cons_succ])
  refine wpAnyU_take (i := 8) (v := ?_) false (by simp only [List.getElem?_toArray, List.getElem?_cons_succ, List.getElem?_cons_zero]; rfl) (by kernel_rfl) (by kernel_rfl) (by kernel_rfl) (fun _ _ _ h => h) (by kernel_rfl) (by decide) (Or.inl ⟨by rfl, ?_⟩) ⟨hS0, (fun _ => hS1)⟩ ?_
  rotate_left
  · rintro w ⟨hSw, hSx⟩
    (try dsimp only at hSw)
    clear hSx
    go_simp
    first | done | with_reducible rfl
  (try simp only [Act.put, List.setIfInBounds_toArray, List.set_cons_zero, List.set_cons_succ])
  refine wpAnyU_one (i := 9) (by kernel_rfl) (by simp only [List.getElem?_toArray, List.getElem?_cons_succ, List.getElem?_cons_zero]; rfl) ?_
  intro K hK
  go_simp
  clear hS0
  have hS0 := HAll.out _ (((Below.refl _ W1).drew).alloc (by simp) (.cells #[.int .i64 0, .int .i64 0, .slice none 0 0, .bool false] 35))
  refine hK.out _ _ ⟨hS0, (fun _ => hS1)⟩ ?_
  clear hK
  (try simp only [Act.put, List.setIfInBounds_toArray, List.set_cons_zero, List.set_cons_succ])
  refine wpAnyU_one (i := 10) (by kernel_rfl) (by simp only [List.getElem?_toArray, List.getElem?_cons_succ, List.getElem?_cons_zero]; rfl) ?_
  intro K hK
  go_simp
  clear hS0
  have hS0 := HAll.out _ (((Below.refl _ W1).drew).alloc (by simp) (.cells #[.int .i64 s.id, .int .i64 s.segs, .slice lo s.lens.length lc, .bool s.fin] 35))
  refine hK.out _ _ ⟨hS0, (fun _ => hS1)⟩ ?_
  clear hK
  (try simp only [Act.put, List.setIfInBounds_toArray, List.set_cons_zero, List.set_cons_succ])
  refine wpAnyU_take (i := 11) (v := ?_) false (by simp only [List.getElem?_toArray, List.getElem?_cons_succ, List.getElem?_cons_zero]; rfl) (by kernel_rfl) (by kernel_rfl) (by kernel_rfl) (fun _ _ _ h => h) (by kernel_rfl) (by decide) (Or.inl ⟨by rfl, ?_⟩) ⟨hS0, (fun _ => hS1)⟩ ?_
  rotate_left
  · rintro w ⟨hSw, hSx⟩
    (try dsimp only at hSw)
    clear hSx
    go_simp
    first | done | with_reducible rfl
  (try simp only [Act.put, List.setIfInBounds_toArray, List.set_cons_zero, List.set_cons_succ])
  refine wpAnyU_done (by kernel_rfl) ?_ _
  refine NoPanic.normal ?_
  clear hS0 hS1
  obtain ⟨W2, hW2⟩ : ∃ W2, W2 = (W1.alloc (.cells #[.int .i64 s.id, .int .i64 s.segs, .slice lo s.lens.length lc, .bool s.fin] 35)).drew := ⟨_, rfl⟩
  have hb2 : Below W1.heap.size W1 W2 := by rw [hW2]; exact ((Below.refl _ _).alloc (Nat.le_refl _) _).drew
  have hk4 : W2.heap[W1.heap.size]? = some (.cells #[.int .i64 s.id, .int .i64 s.segs, .slice lo s.lens.length lc, .bool s.fin] 35) := by rw [hW2]; exact heap_alloc_new W1 _
  rw [← hW2]
  clear hW2
  have y1 : W2.cell? ⟨w.heap.size, 0, none⟩ = some (.int .i64 shard) := World.news_of_block ((hb2.block _ HZ1.out.1).trans HK1.out) 0 _ rfl
  have y2 : W2.cell? ⟨w.heap.size + 1, 0, none⟩ = some (.int .i64 seg) := World.news_of_block ((hb2.block _ HZ1.out.2.1).trans HK2.out) 0 _ rfl
  have y3 : W2.cell? ⟨w.heap.size + 1 + 1, 0, none⟩ = some (.int .u64 off) := World.news_of_block ((hb2.block _ HZ1.out.2.2).trans HK3.out) 0 _ rfl
  have z1 : W2.cell? ⟨W1.heap.size, 1, none⟩ = some (.int .i64 s.segs) := World.news_of_block hk4 1 _ rfl
  have hbw := HB1.out.trans (hb2.mono HB1.out.size)
  have HBw := Lib.hid hbw
  have d1 := (hbw.cell (p := ⟨b0, 1, none⟩) hb0).trans cl
  have hd1 : decide (seg < 0) = false := decide_eq_false (by omega)
  have hd2 : decide ((s.segs : Int) ≤ seg) = false := decide_eq_false (by omega)
  have HI := Lib.hid (indexf_any (SpL.of_own (H.out.below hbw (Nat.le_refl _)).own) hl y1 y2 y3 HX.out ho.2)
  clear hbw hk4
  go_wp2_with fail
  refine HI.out.mono ?_
  rintro e w5 ⟨i, rfl, hor, hb5⟩
  have hik : i = k := by
    rcases hor with ⟨_, hall⟩ | ⟨j, y, rfl, hj, hy, hnj⟩
    · have := hall x (List.mem_of_getElem? HK.out); rw [HH.out] at this; cases this
    · rcases Nat.lt_trichotomy j k with h | h | h
      · have := HNo.out j y h hj; rw [hy] at this; cases this
      · rw [h]
      · have := hnj k x h HK.out; rw [HH.out] at this; cases this
  subst hik
  have hbw5 := HBw.out.trans (hb5.mono HBw.out.size)
  have HB5 := Lib.hid hbw5
  have v1 := (hbw5.cell (p := ⟨b0, 1, none⟩) hb0).trans cl
  have v3 := (hb5.cell (World.block_lt_of_cell? W2 _ y3)).trans y3
  obtain ⟨ad, rfl, q0, q1, q2, q3, q4⟩ := (SpL.of_own (H.out.below hbw5 (Nat.le_refl _)).own).at k x HK.out
  have hkl : (k : Int) < (F.l.length : Int) := by have := (List.getElem?_eq_some_iff.1 HK.out).1; omega
  have hk0 : (0 : Int) ≤ (k : Int) := by omega
  have hkn : decide ((k : Int) < 0) = false := decide_eq_false (by omega)
  have hkw : IntKind.i64.wrap (k : Int) = k := IntWalk.i64_in _ (by omega)
  have f4 : IntKind.u64.wrap (x.pos + off) = x.pos + off := IntWalk.u64_in _ (by omega)
  have f5 : IntKind.u64.wrap (x.pos + off - x.off) = x.pos + off - x.off := IntWalk.u64_in _ (by omega)
  clear hor hb5 hbw5 y1 y2 y3 z1 d1
  go_wp2_with fail
  go_quiet (fail)
  go_wp2
  (try simp only [Exit.inBlock, Exit.then])
  refine bodyPost_ret (v := .tuple #[.int .u64 (x.pos + off - x.off), .int .i64 0]) (by simp [results, Try.results33, go_sem]) rfl ?_
  exact ⟨rfl, below_drewN HB5.out _⟩
end Go.Proofs.Ytabanackdjlcmaa
