/-
  Contracts of the document's answers for package vec: sums, differences; the document's example.
-/
import Derived.Test.YtbdcbdngamglaaaVecRef2
namespace Go.Proofs.Ytbdcbdngamglaaa
open Go.RowKit

set_option maxHeartbeats 400000 in
theorem rsum_any {v : Value} {xs : List Int} {w : World} (h : SlR w v (u64s xs)) (hu : U64 xs) :
    Calls Try.prog 12 #[v] w fun e w' => e = .returned (.tuple #[.int .u64 (sumV xs), .int .i64 (sumE xs)]) ∧ w = w' := by
  have Hle := Lib.hid (sumI_take_le xs hu)
  have Hu := Lib.hid hu
  clear hu
  obtain ⟨ao, c, rfl, hc, hm, hx⟩ := h.intsAt
  go_enter Try.func12, Try.ntmps12
  go_wp2
  go_loop [5, 4] (fun i n => ∃ (k : Nat) (s : Int), k ≤ xs.length ∧ i = .int .i64 k ∧ n = .int .u64 s ∧ 0 ≤ s ∧ s ≤ 18446744073709551615 ∧ s = sumI (xs.take k)) (fun i _ => xs.length - (intOf i).toNat)
  case atStart => exact ⟨0, 0, by omega, rfl, rfl, by omega, by omega, by simp [sumI]⟩
  case round =>
    obtain ⟨k, s, hk, rfl, rfl, hs0, hs1, hse⟩ := hrel
    have HS := Lib.hid hse
    clear hse
    by_cases hlt : k < xs.length
    · obtain ⟨a, rfl, hcell⟩ := hx k hlt
      have hub := Hu.out.at k
      have hss0 := sumI_take_succ xs k hlt
      rw [← atI_of_lt xs k hlt] at hss0
      have hss := Lib.hid hss0
      clear hss0
      generalize atI xs k = x at *
      obtain ⟨hx0, hx1⟩ := hub
      clear hx
      by_cases hov : s + x ≤ 18446744073709551615
      · go_wp2
        go_round
        case rel => exact ⟨k + 1, s + x, by omega, by go_num, rfl, by omega, by omega, by rw [hss.out, ← HS.out]⟩
        case measure => simp [intOf]; omega
      · have hbig : 18446744073709551615 < sumI xs := by have h1 := Hle.out (k + 1); rw [hss.out, ← HS.out] at h1; omega
        have E1 := Lib.hid (show sumV xs = 0 by unfold sumV; rw [if_neg (by omega)])
        have E2 := Lib.hid (show sumE xs = 37 by unfold sumE; rw [if_neg (by omega)])
        clear hbig
        go_wp2
        go_ret2
        exact ⟨by rw [E1.out, E2.out]; rfl, rfl⟩
    · have hkl : k = xs.length := by omega
      subst hkl
      have hse := HS.out
      rw [List.take_length] at hse
      have E1 := Lib.hid (show sumV xs = s by unfold sumV; rw [if_pos (by omega)]; exact hse.symm)
      have E2 := Lib.hid (show sumE xs = 0 by unfold sumE; rw [if_pos (by omega)])
      clear hse hx
      go_wp2
      go_ret2
      exact ⟨by rw [E1.out, E2.out]; rfl, rfl⟩

theorem subU_of (x y : Int) (h0 : 0 ≤ y) (h1 : y ≤ x) (h2 : x ≤ 18446744073709551615) : subU x y = x - y := IntWalk.u64_in _ (by omega)

theorem comb_le_len (a b : List Int) (hu : U64 b) (h : leB b a = true) : cutI (combI subU a b) = cutI ((List.range a.length).map fun i : Nat => subU (atI a i) (atI b i)) := by
  have e : combI subU a b = ((List.range a.length).map fun i : Nat => subU (atI a i) (atI b i)) ++ List.replicate (b.length - a.length) 0 := by
    apply List.ext_getElem
    · simp [combI]; omega
    · intro i h1 h2
      rw [combI_length] at h1
      rw [List.getElem_append]
      simp only [combI, List.getElem_map, List.getElem_range]
      split
      · rfl
      · rename_i hi
        simp only [List.length_map, List.length_range] at hi
        have ha : atI a i = 0 := atI_of_ge a i (by omega)
        have hle : leB b a = true := h
        unfold leB allB at hle
        have := of_decide_eq_true (of_decide_eq_true hle i (by omega))
        have h0 := (hu.at i).1
        rw [List.getElem_replicate, ha, show atI b i = 0 by omega]
        rfl
  have pad : ∀ (n : Nat) (ys : List Int), cutI (ys ++ List.replicate n 0) = cutI ys := by
    intro n
    induction n with
    | zero => intro ys; simp
    | succ n ih => intro ys; rw [List.replicate_succ', ← List.append_assoc, cutI_snoc_zero, ih]
  rw [e, pad]

set_option maxHeartbeats 800000 in
theorem rless_any {va vb : Value} {a b : List Int} {w : World} (ha : SlR w va (u64s a)) (hb : SlR w vb (u64s b)) (hua : U64 a) (hu : U64 b) (la : a.length ≤ 1048576) :
    Calls Try.prog 14 #[va, vb] w (RetOwnE w 24 (u64s (lessI a b)) (lessE a b)) := by
  have Ha := Lib.hid ha
  have Hb := Lib.hid hb
  have HUa := Lib.hid hua
  obtain ⟨ao, ca, rfl, hca, hma, hxa⟩ := ha.intsAt
  obtain ⟨bo, cb, rfl, _⟩ := hb.ints
  by_cases h : leB b a = true
  · have e0 := comb_le_len a b hu h
    have E1 := Lib.hid (show lessI a b = cutI ((List.range a.length).map fun i : Nat => subU (atI a i) (atI b i)) by unfold lessI; rw [if_pos h, e0])
    have E2 := Lib.hid (show lessE a b = 0 by unfold lessE; rw [if_pos h])
    clear e0 hu
    go_enter Try.func14, Try.ntmps14
    go_wp2_with (go_at_call 15; ((with_reducible refine (rle_any Hb.out Ha.out HUa.out).mono ?_); rintro e w1 ⟨rfl, hd⟩; have hd := Lib.hid hd))
    have hbd : Below w.heap.size w w1 := hd.out.below
    have HBD := Lib.hid hbd
    clear hbd
    go_loopw [8, 7] (fun i o wr => ∃ k : Nat, k ≤ a.length ∧ i = .int .i64 k ∧ wr.ownsRow w.heap.size 24 1 o k (u64s ((List.range k).map fun i : Nat => subU (atI a i) (atI b i))) ∧ Below w.heap.size w wr) (fun i _ _ => a.length - (intOf i).toNat)
    case atStart => exact ⟨0, by omega, rfl, by simpa using World.ownsRow_nil _ _ _ _, HBD.out⟩
    case round =>
      obtain ⟨k, hk, rfl, hown, hbl⟩ := hrel
      have HO := Lib.hid hown
      have HB := Lib.hid hbl
      by_cases hlt : k < a.length
      · obtain ⟨c, rfl, hcell0⟩ := hxa k hlt
        have hcell : wr.cell? (c.add k) = some (.int .u64 (atI a k)) := by
          rw [hbl.cell (World.block_lt_of_cell? w _ hcell0)]; exact hcell0
        have hblk := World.block_lt_of_cell? w _ hcell0
        have hsl := Lib.hid (Hb.out.below hbl (Nat.le_refl _))
        obtain ⟨cs, hcs⟩ : ∃ cs, cs = u64s ((List.range k).map fun i : Nat => subU (atI a i) (atI b i)) := ⟨_, rfl⟩
        rw [← hcs] at HO
        have HCs := Lib.hid hcs
        have hbs := HB.out.size
        clear hown hbl hxa hcell0 hcs
        have hk0 : (0 : Int) ≤ (k : Int) := by omega
        have hk1 : (k : Int) < (a.length : Int) := by omega
        generalize hX : atI a k = X at *
        have HX := Lib.hid hX
        clear hX
        go_wp2_with fail
        have HSD := Lib.hid (show SlR wr.drew (.slice bo b.length cb) (u64s b) from hsl.out.below (Below.refl wr.heap.size wr).drew (Nat.le_refl _))
        go_region_held3 (fun w' => w'.cell? (c.add k) = some (.int .u64 X)) (first | go_keep | (rw [hb'.cell hblk]; go_keep))
          (first
            | (go_at_call 20; (with_reducible refine (rat_any (k : Int) HSD.out).mono ?_); rintro e w' ⟨rfl, rfl⟩)
            | (refine step_app_u64 rfl (.tmp 20) (.tmp 29) rfl rfl rfl (heap_alloc_new wr _) (World.ownsRow.drew (HO.out.alloc _)) (by omega) (by simp; omega) ?_; intro g cap w' hown hb' _ _; have hown := Lib.hid hown))
        go_wp2
        go_roundw
        case rel =>
          refine ⟨k + 1, by omega, by go_num, ?_, ((HB.out.alloc hbs _).drew).trans hb'⟩
          have := hown.out
          rw [HCs.out] at this
          rw [List.range_succ, List.map_append, u64s, List.map_append]
          have e : [Int.ofNat k].length = 1 := rfl
          show World.ownsRow _ _ _ _ _ _ (_ ++ [Value.int .u64 (subU (atI a k) (atI b k))])
          rw [HX.out]
          exact this
        case measure => simp [intOf]; omega
      · have hkl : k = a.length := by omega
        subst hkl
        clear hown hbl hxa
        go_wp2_with (go_at_call 22; refine (rcut_any (SlR.of_own HO.out) (by simp; omega)).mono ?_; rintro e w' ⟨v', rfl, hown, hb⟩)
        go_ret2
        exact ⟨v', by rw [E2.out]; rfl, by rw [E1.out]; exact hown.weaken HB.out.size, HB.out.trans (hb.mono HB.out.size)⟩
  · have h' : leB b a = false := by simpa using h
    have E1 := Lib.hid (show lessI a b = [] by unfold lessI; rw [if_neg h])
    have E2 := Lib.hid (show lessE a b = 15 by unfold lessE; rw [if_neg h])
    clear hxa
    go_enter Try.func14, Try.ntmps14
    go_wp2_with (go_at_call 15; ((with_reducible refine (rle_any Hb.out Ha.out HUa.out).mono ?_); rintro e w1 ⟨rfl, hd⟩; have hd := Lib.hid hd))
    go_ret2
    exact ⟨_, by rw [E2.out]; rfl, by rw [E1.out]; exact World.ownsRow_nil _ _ _ _, hd.out.below⟩

theorem alloc_at0 (w : World) (o : Obj) : (w.alloc o).heap[w.heap.size]? = some o := heap_alloc_new w o
theorem alloc_at1 (w : World) (o p : Obj) : ((w.alloc o).alloc p).heap[w.heap.size]? = some o := by
  rw [Below.heap_alloc _ _ _ (by simp)]; exact heap_alloc_new w o
theorem alloc_at2 (w : World) (o p q : Obj) : (((w.alloc o).alloc p).alloc q).heap[w.heap.size]? = some o := by
  rw [Below.heap_alloc _ _ _ (by simp; omega)]; exact alloc_at1 w o p
theorem slR_block {w : World} {B : Nat} {cs : Array Value} {e : TypeId} {fr : Nat × Nat} (h : w.heap[B]? = some (.cells cs e fr)) (hs : cs.size ≤ maxLen) :
    SlR w (.slice (some ⟨B, 0, none⟩) cs.size cs.size) cs.toList := by
  exact ⟨some ⟨B, 0, none⟩, cs.size, by simp, by simp, hs, fun i u hi => ⟨_, rfl, World.news_of_block h i u hi⟩⟩
theorem rows_lit2 (w : World) (a b : List Int) (t t' : TypeId) (ha : a.length ≤ 1000) (hb : b.length ≤ 1000) :
    RowsR (((w.alloc (.cells (u64s a).toArray t)).alloc (.cells (u64s b).toArray t)).alloc (.cells #[.slice (some ⟨w.heap.size, 0, none⟩) a.length a.length, .slice (some ⟨w.heap.size + 1, 0, none⟩) b.length b.length] t'))
      (.slice (some ⟨w.heap.size + 2, 0, none⟩) 2 2) [a, b] := by
  have e : ((w.alloc (.cells (u64s a).toArray t)).alloc (.cells (u64s b).toArray t)).heap.size = w.heap.size + 2 := by simp
  have h0 : SlR ((w.alloc (.cells (u64s a).toArray t)).alloc (.cells (u64s b).toArray t)) (.slice (some ⟨w.heap.size, 0, none⟩) a.length a.length) (u64s a) := by
    have := slR_block (alloc_at1 w (.cells (u64s a).toArray t) (.cells (u64s b).toArray t)) (by simp; unfold maxLen; omega)
    simpa using this
  have h1 : SlR ((w.alloc (.cells (u64s a).toArray t)).alloc (.cells (u64s b).toArray t)) (.slice (some ⟨w.heap.size + 1, 0, none⟩) b.length b.length) (u64s b) := by
    have := slR_block (alloc_at0 (w.alloc (.cells (u64s a).toArray t)) (.cells (u64s b).toArray t)) (by simp; unfold maxLen; omega)
    simpa using this
  have := rowsR_pair (t := t') h0 h1
  rw [e] at this
  exact this
theorem lit_u64 (w : World) (a : List Int) (t : TypeId) (ha : a.length ≤ 1000) : SlR (w.alloc (.cells (u64s a).toArray t)) (.slice (some ⟨w.heap.size, 0, none⟩) a.length a.length) (u64s a) := by
  have := slR_block (alloc_at0 w (.cells (u64s a).toArray t)) (by simp; unfold maxLen; omega)
  simpa using this
theorem lit_u64' (w : World) (a : List Int) (t : TypeId) (o : Obj) (ha : a.length ≤ 1000) : SlR ((w.alloc (.cells (u64s a).toArray t)).alloc o) (.slice (some ⟨w.heap.size, 0, none⟩) a.length a.length) (u64s a) := by
  have := slR_block (alloc_at1 w (.cells (u64s a).toArray t) o) (by simp; unfold maxLen; omega)
  simpa using this

theorem lit_u64b (w : World) (a : List Int) (t : TypeId) (o : Obj) (ha : a.length ≤ 1000) : SlR ((w.alloc o).alloc (.cells (u64s a).toArray t)) (.slice (some ⟨w.heap.size + 1, 0, none⟩) a.length a.length) (u64s a) := by
  have := lit_u64 (w.alloc o) a t ha
  have e : (w.alloc o).heap.size = w.heap.size + 1 := by simp
  rw [e] at this
  exact this

set_option maxHeartbeats 1000000 in
theorem awake_any (w : World) : Calls Try.prog 10 #[] w fun e w' => e = .returned (.bool true) ∧ Below w.heap.size w w' := by
  go_enter Try.func10, Try.ntmps10
  go_wp2_with fail
  refine (min_any (L := [[1, 2, 3], [2, 1]]) (by exact rows_lit2 _ [1, 2, 3] [2, 1] _ _ (by decide) (by decide)) (by decide)).mono ?_
  rintro e w1 ⟨v1, rfl, hown1, hb1⟩
  have hbl1 : Below w.heap.size w w1 := ((((Below.refl _ _).alloc (Nat.le_refl _) _).alloc (by simp) _).alloc (by simp; omega) _).trans (hb1.mono (by simp; omega))
  obtain ⟨g1, c1, rfl, _⟩ := own_pos hown1 (by decide)
  have hs1 : SlR w1 (.slice (some ⟨g1, 0, none⟩) 2 c1) (u64s [1, 1]) := SlR.of_own hown1
  have H1 := Lib.hid hs1
  have HB1 := Lib.hid hbl1
  clear hown1 hb1 hbl1 hs1
  go_wp2_with fail
  refine (max_any (L := [[1, 2, 3], [2, 1]]) (by exact rows_lit2 _ [1, 2, 3] [2, 1] _ _ (by decide) (by decide)) (by decide)).mono ?_
  rintro e w2 ⟨v2, rfl, hown2, hb2⟩
  have hbl2 : Below w1.heap.size w1 w2 := ((((Below.refl _ _).alloc (Nat.le_refl _) _).alloc (by simp) _).alloc (by simp; omega) _).trans (hb2.mono (by simp; omega))
  obtain ⟨g2, c2, rfl, _⟩ := own_pos hown2 (by decide)
  have hs2 : SlR w2 (.slice (some ⟨g2, 0, none⟩) 3 c2) (u64s [2, 2, 3]) := SlR.of_own hown2
  have H1 := Lib.hid (H1.out.below hbl2 (Nat.le_refl _))
  have HB2 := Lib.hid (HB1.out.trans (hbl2.mono HB1.out.size))
  have H2 := Lib.hid hs2
  clear hown2 hb2 hbl2 hs2 HB1
  go_wp2_with fail
  refine (less_any (a := [3, 1]) (b := [1, 1]) (by exact lit_u64' _ [3, 1] _ _ (by decide)) (by exact lit_u64b _ [1, 1] _ _ (by decide)) (by decide) (by decide)).mono ?_
  rintro e w3 ⟨v3, rfl, hown3, hb3⟩
  have hbl3 : Below w2.heap.size w2 w3 := (((Below.refl _ _).alloc (Nat.le_refl _) _).alloc (by simp) _).trans (hb3.mono (by simp; omega))
  obtain ⟨g3, c3, rfl, _⟩ := own_pos hown3 (by decide)
  have hs3 : SlR w3 (.slice (some ⟨g3, 0, none⟩) 1 c3) (u64s [2]) := SlR.of_own hown3
  have H1 := Lib.hid (H1.out.below hbl3 (Nat.le_refl _))
  have H2 := Lib.hid (H2.out.below hbl3 (Nat.le_refl _))
  have HB3 := Lib.hid (HB2.out.trans (hbl3.mono HB2.out.size))
  have H3 := Lib.hid hs3
  have hE3 : lessE [3, 1] [1, 1] = 0 := by decide
  rw [hE3]
  clear hown3 hb3 hbl3 hs3 HB2 hE3
  go_wp2_with fail
  refine (less_any (a := [1]) (b := [2]) (by exact lit_u64' _ [1] _ _ (by decide)) (by exact lit_u64b _ [2] _ _ (by decide)) (by decide) (by decide)).mono ?_
  rintro e w4 ⟨v4, rfl, hown4, hb4⟩
  have hbl4 : Below w3.heap.size w3 w4 := (((Below.refl _ _).alloc (Nat.le_refl _) _).alloc (by simp) _).trans (hb4.mono (by simp; omega))
  have H1 := Lib.hid (H1.out.below hbl4 (Nat.le_refl _))
  have H2 := Lib.hid (H2.out.below hbl4 (Nat.le_refl _))
  have H3 := Lib.hid (H3.out.below hbl4 (Nat.le_refl _))
  have HB4 := Lib.hid (HB3.out.trans (hbl4.mono HB3.out.size))
  have hE4 : lessE [1] [2] = 15 := by decide
  rw [hE4]
  clear hown4 hb4 hbl4 HB3 hE4
  go_wp2_with fail
  refine (sum_any (xs := [1, 2]) (by exact lit_u64 _ [1, 2] _ (by decide)) (by unfold U64; decide)).mono ?_
  rintro e w5 ⟨rfl, rfl⟩
  have hV : sumV [1, 2] = 3 := by decide
  have hE : sumE [1, 2] = 0 := by decide
  rw [hV, hE]
  clear hV hE
  obtain ⟨w5, hw5⟩ : ∃ w5, w5 = w4.alloc (.cells #[.int .u64 1, .int .u64 2] 24) := ⟨_, rfl⟩
  have hbl5 : Below w4.heap.size w4 w5 := by rw [hw5]; exact (Below.refl _ _).alloc (Nat.le_refl _) _
  have hs1 := H1.out.below hbl5 (Nat.le_refl _)
  have hs2 := H2.out.below hbl5 (Nat.le_refl _)
  have hs3 := H3.out.below hbl5 (Nat.le_refl _)
  have HB5 := Lib.hid (HB4.out.trans (hbl5.mono HB4.out.size))
  have c10 : w5.cell? ⟨g1, 0, none⟩ = some (.int .u64 1) := by obtain ⟨a, c, hv, _, _, hx⟩ := hs1; cases hv; obtain ⟨b, hb, hc⟩ := hx 0 _ rfl; cases hb; exact hc
  have c11 : w5.cell? ⟨g1, 1, none⟩ = some (.int .u64 1) := by obtain ⟨a, c, hv, _, _, hx⟩ := hs1; cases hv; obtain ⟨b, hb, hc⟩ := hx 1 _ rfl; cases hb; exact hc
  have c20 : w5.cell? ⟨g2, 0, none⟩ = some (.int .u64 2) := by obtain ⟨a, c, hv, _, _, hx⟩ := hs2; cases hv; obtain ⟨b, hb, hc⟩ := hx 0 _ rfl; cases hb; exact hc
  have c30 : w5.cell? ⟨g3, 0, none⟩ = some (.int .u64 2) := by obtain ⟨a, c, hv, _, _, hx⟩ := hs3; cases hv; obtain ⟨b, hb, hc⟩ := hx 0 _ rfl; cases hb; exact hc
  rw [← hw5]
  clear hs1 hs2 hs3 H1 H2 H3 HB4 hbl5 hw5
  go_wp2_with fail
  refine (same_any (a := [1]) (b := [1, 0]) (by exact lit_u64' _ [1] _ _ (by decide)) (by exact lit_u64b _ [1, 0] _ _ (by decide))).mono ?_
  rintro e w6 ⟨rfl, rfl⟩
  have hS : sameB [1] [1, 0] = true := by decide
  rw [hS]
  go_wp2_with fail
  go_ret
  exact ⟨rfl, (HB5.out.alloc HB5.out.size _).alloc (by have := HB5.out.size; simp; omega) _⟩
end Go.Proofs.Ytbdcbdngamglaaa
