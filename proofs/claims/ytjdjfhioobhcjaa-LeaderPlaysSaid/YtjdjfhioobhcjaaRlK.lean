/-
  Law 15's own functions; calls of a leader that is nil.
-/
import Derived.Test.YtjdjfhioobhcjaaRlE
import Derived.Test.YtjdjfhioobhcjaaRlJ
import Derived.Test.YtjdjfhioobhcjaaLeaX
namespace Go.Proofs.Ytjdjfhioobhcjaa
open Go.ChangeShapes Go.WideShapes Go.ChangeAt Go.RowKit Go.Maps Go.Shelf
set_option maxRecDepth 100000
set_option linter.unusedVariables false
set_option linter.unusedSimpArgs false

set_option maxHeartbeats 2000000 in
theorem lvotes_any {w : World} {v : Value} {hs : List Vt} (h : VtL w v hs) (hl : hs.length ≤ 1000000) : Calls Try.prog 35 #[v] w (RetRf w hs) := by
  obtain ⟨i0, hi, hz0, hz1, hz2⟩ := info_parts Try.rvInfo
  have H := Lib.hid h
  obtain ⟨ao, ac, rfl, h1, h2, hx⟩ := h
  have HX := Lib.hid hx
  clear hx
  go_enter Try.func35, Try.ntmps35
  go_wp2_with fail
  go_loopw [4, 3] (fun i ov wr => ∃ (k : Nat) (o : Option Addr) (c : Nat), k ≤ hs.length ∧ i = .int .i64 k ∧ ov = .slice o k c ∧ wr.ownsRow w.heap.size 56 3 (.slice o k c) k (rfC (hs.take k)) ∧ Below w.heap.size w wr) (fun i _ _ => hs.length - (intOf i).toNat)
  case atStart => exact ⟨0, none, 0, by omega, rfl, rfl, by simpa [rfC] using World.ownsRow_nil _ _ _ _, Below.refl _ _⟩
  case round =>
    obtain ⟨k, o, c, hk, rfl, rfl, hown, hbl⟩ := hrel
    have HO := Lib.hid hown
    have HB := Lib.hid hbl
    by_cases hlt : k < hs.length
    · have hki : (k : Int) < (hs.length : Int) := by omega
      obtain ⟨s, hsk⟩ : ∃ s, hs[k]? = some s := ⟨_, List.getElem?_eq_getElem hlt⟩
      obtain ⟨a, sv, rfl, c0, c1, c2, hsl⟩ := HX.out k s hsk
      obtain ⟨so, sc, rfl, g1, g2⟩ := hsl.form
      simp only [List.length_map] at c2 hsl g1 g2
      have HAll : Hid (∀ w' : World, Below w.heap.size w w' → w'.cell? (a.add (k * 3)) = some (.int .u64 s.slot) ∧ w'.cell? ⟨(a.add (k * 3)).block, (a.add (k * 3)).off + 1, none⟩ = some (.int .u64 s.ballot) ∧ w'.cell? ⟨(a.add (k * 3)).block, (a.add (k * 3)).off + 2, none⟩ = some (.slice so s.val.length sc) ∧ (convert 30 9 (.slice so s.val.length sc)).run Try.prog w' = .ok (.string (strB s.val)) w') := Lib.hid fun w' hb =>
        ⟨(hb.cell (World.block_lt_of_cell? _ _ c0)).trans c0, (hb.cell (World.block_lt_of_cell? _ _ c1)).trans c1, (hb.cell (World.block_lt_of_cell? _ _ c2)).trans c2, run_strB (P := Try.prog) (src := 30) (dst := 9) Try.underlying30 Try.underlying5 Try.underlying9 (hsl.below hb (Nat.le_refl _))⟩
      have HT : Hid (rfC (hs.take (k + 1)) = rfC (hs.take k) ++ [.int .u64 s.slot, .int .u64 s.ballot, .string (strB s.val)]) := Lib.hid (by
        obtain ⟨q1, q2⟩ := List.getElem?_eq_some_iff.1 hsk
        rw [List.take_succ_eq_append_getElem q1, q2, rfC_snoc])
      have HU : Hid (∀ u ∈ (#[.int .u64 s.slot, .int .u64 s.ballot, .string (strB s.val)] : Array Value).toList, u.oneCell' = true) := Lib.hid (by intro u hu; simp at hu; rcases hu with rfl | rfl | rfl <;> rfl)
      clear hown hbl hsk c0 c1 c2 hsl
      have hS0 := HAll.out wr HB.out
      obtain ⟨c0, c1, c2, r0⟩ := hS0
      clear r0
      generalize hcs : rfC (hs.take k) = cs at *
      have HCs := Lib.hid hcs
      clear hcs
      have hk40 : k ≤ 1099511627776 := by omega
      have HBd := Lib.hid (HB.out.drew)
      go_wp2_with fail
      have hS1 := HAll.out wr.drew HBd.out
      go_region_held3 (fun w' => w'.cell? (a.add (k * 3)) = some (.int .u64 s.slot) ∧ w'.cell? ⟨(a.add (k * 3)).block, (a.add (k * 3)).off + 1, none⟩ = some (.int .u64 s.ballot) ∧ w'.cell? ⟨(a.add (k * 3)).block, (a.add (k * 3)).off + 2, none⟩ = some (.slice so s.val.length sc) ∧ (convert 30 9 (.slice so s.val.length sc)).run Try.prog w' = .ok (.string (strB s.val)) w') (first | exact hS1 | exact hS7 | exact HAll.out _ HBd.out | exact HAll.out _ (HBd.out.alloc HBd.out.size _) | go_keep)
        (first
          | (refine step_appS rfl (.tmp 11) (.tmp 29) 46 rfl w.heap.size 56 i0 _ 3 32 Try.underlying46 hi hz0 hz1 hz2 rfl (by decide) (by decide) rfl rfl (heap_alloc_new _ _) rfl (HO.out.drew.alloc _) HU.out hk40 (by simp; exact Nat.le_succ_of_le HB.out.size) ?_
             intro g7 cap7 w7 hown7 hb7 _ _
             have HO7 := Lib.hid hown7
             have HB7 := Lib.hid ((HBd.out.alloc HBd.out.size _).trans hb7)
             have hS7 := HAll.out _ HB7.out
             clear hown7 hb7))
      go_wp2_with fail
      go_roundw
      case rel => exact ⟨k + 1, _, _, by omega, by go_num, rfl, by rw [HT.out]; exact HO7.out, HB7.out⟩
      case measure => simp [intOf]; omega
    · have hkl : k = hs.length := by omega
      rw [hkl, List.take_length] at HO
      have HKl := Lib.hid hkl
      have hkd : decide ((k : Int) < (hs.length : Int)) = false := decide_eq_false (by omega)
      clear hown hbl hkl
      go_wp2_with fail
      go_ret
      rw [HKl.out]
      exact ⟨o, c, rfl, HO.out, HB.out⟩
theorem lnil_is (w : World) (s n b : Int) : Calls Try.prog 55 #[.pointer none, .int .i64 s, .int .i64 n, .int .u64 b] w fun e w' => e = .returned (.bool false) ∧ w = w' := by
  go_enter Try.func55, Try.ntmps55
  go_wp2_with fail
  go_ret
  exact ⟨rfl, rfl⟩
theorem lnil_stop (w : World) : Calls Try.prog 41 #[.pointer none] w fun e w' => e = .returned (.tuple #[]) ∧ Below w.heap.size w w' := by
  go_enter Try.func41, Try.ntmps41
  go_wp2_with fail
  go_end0
  exact ⟨rfl, Below.refl _ _⟩
theorem lnil_begin (w : World) (b f : Int) : Calls Try.prog 31 #[.pointer none, .int .u64 b, .int .u64 f] w fun e w' => e = .returned (.int .i64 1) ∧ Below w.heap.size w w' := by
  go_enter Try.func31, Try.ntmps31
  go_wp2_with fail
  go_ret
  exact ⟨rfl, Below.refl _ _⟩
theorem lnil_leads (w : World) : Calls Try.prog 43 #[.pointer none] w fun e w' => e = .returned (.bool false) ∧ Below w.heap.size w w' := by
  go_enter Try.func43, Try.ntmps43
  go_wp2_with fail
  go_ret
  exact ⟨rfl, Below.refl _ _⟩
theorem lnil_ballot (w : World) : Calls Try.prog 44 #[.pointer none] w fun e w' => e = .returned (.int .u64 0) ∧ Below w.heap.size w w' := by
  go_enter Try.func44, Try.ntmps44
  go_wp2_with fail
  go_ret
  exact ⟨rfl, Below.refl _ _⟩
theorem lnil_open (w : World) : Calls Try.prog 45 #[.pointer none] w fun e w' => e = .returned (.slice none 0 0) ∧ Below w.heap.size w w' := by
  go_enter Try.func45, Try.ntmps45
  go_wp2_with fail
  go_ret
  exact ⟨rfl, Below.refl _ _⟩
theorem lnil_propose (w : World) : Calls Try.prog 36 #[.pointer none, .slice none 0 0] w fun e w' => e = .returned (.tuple #[.agg #[.int .u64 0, .int .u64 0, .slice none 0 0], .int .i64 1]) ∧ Below w.heap.size w w' := by
  have k1 := heap_alloc_new w (.cells #[.int .u64 0, .int .u64 0, .slice none 0 0] 39)
  go_enter Try.func36, Try.ntmps36
  go_wp2_with fail
  have HB := Lib.hid ((Below.refl w.heap.size w).alloc (Nat.le_refl _) (.cells #[.int .u64 0, .int .u64 0, .slice none 0 0] 39))
  generalize w.alloc (.cells #[.int .u64 0, .int .u64 0, .slice none 0 0] 39) = W4 at *
  have s0 : W4.cell? ⟨w.heap.size, 0, none⟩ = some (.int .u64 0) := World.news_of_block k1 0 _ rfl
  have s1 : W4.cell? ⟨w.heap.size, 1, none⟩ = some (.int .u64 0) := World.news_of_block k1 1 _ rfl
  have s2 : W4.cell? ⟨w.heap.size, 2, none⟩ = some (.slice none 0 0) := World.news_of_block k1 2 _ rfl
  refine bodyPost_ret (v := .tuple #[.agg #[.int .u64 0, .int .u64 0, .slice none 0 0], .int .i64 1]) (by simp [results, Try.results36, go_sem, s0, s1, s2]) rfl ?_
  exact ⟨rfl, HB.out⟩
theorem lnil_promise (w : World) (n b s : Int) (v : Value) : Calls Try.prog 33 #[.pointer none, .int .i64 n, .int .u64 b, .int .u64 s, v] w fun e w' => e = .returned (.tuple #[.slice none 0 0, .bool false]) ∧ Below w.heap.size w w' := by
  go_enter Try.func33, Try.ntmps33
  go_wp2_with fail
  refine (lnil_is _ _ _ _).mono ?_
  rintro e w1 ⟨rfl, rfl⟩
  go_wp2_with fail
  refine bodyPost_ret (v := .tuple #[.slice none 0 0, .bool false]) (by simp [results, Try.results33, go_sem]) rfl ?_
  exact ⟨rfl, Below.refl _ _⟩
theorem lnil_accepted (w : World) (n b s : Int) : Calls Try.prog 39 #[.pointer none, .int .i64 n, .int .u64 b, .int .u64 s] w fun e w' => e = .returned (.tuple #[.agg #[.int .u64 0, .int .u64 0, .slice none 0 0], .bool false]) ∧ Below w.heap.size w w' := by
  have k1 := heap_alloc_new w (.cells #[.int .u64 0, .int .u64 0, .slice none 0 0] 39)
  go_enter Try.func39, Try.ntmps39
  go_wp2_with fail
  refine (lnil_is _ _ _ _).mono ?_
  rintro e w1 ⟨rfl, rfl⟩
  go_wp2_with fail
  have HB := Lib.hid ((Below.refl w.heap.size w).alloc (Nat.le_refl _) (.cells #[.int .u64 0, .int .u64 0, .slice none 0 0] 39))
  generalize w.alloc (.cells #[.int .u64 0, .int .u64 0, .slice none 0 0] 39) = W4 at *
  have s0 : W4.cell? ⟨w.heap.size, 0, none⟩ = some (.int .u64 0) := World.news_of_block k1 0 _ rfl
  have s1 : W4.cell? ⟨w.heap.size, 1, none⟩ = some (.int .u64 0) := World.news_of_block k1 1 _ rfl
  have s2 : W4.cell? ⟨w.heap.size, 2, none⟩ = some (.slice none 0 0) := World.news_of_block k1 2 _ rfl
  refine bodyPost_ret (v := .tuple #[.agg #[.int .u64 0, .int .u64 0, .slice none 0 0], .bool false]) (by simp [results, Try.results39, go_sem, s0, s1, s2]) rfl ?_
  exact ⟨rfl, HB.out⟩
theorem lone_any {w : World} {v : Vt} {so : Option Addr} {sc : Nat} (hs : SlR w (.slice so v.val.length sc) (u8s v.val)) : Calls Try.prog 38 #[.agg #[.int .u64 v.slot, .int .u64 v.ballot, .slice so v.val.length sc]] w fun e w' => e = .returned (rvV v) ∧ Below w.heap.size w w' := by
  obtain ⟨k0, k1, k2, hB⟩ := two_new w (.cells #[.int .u64 v.slot, .int .u64 v.ballot, .slice so v.val.length sc] 39) (.cells #[.int .u64 0, .int .u64 0, .string ⟨#[]⟩] 56)
  have rc : (convert 30 9 (.slice so v.val.length sc)).run Try.prog ((w.alloc (.cells #[.int .u64 v.slot, .int .u64 v.ballot, .slice so v.val.length sc] 39)).alloc (.cells #[.int .u64 0, .int .u64 0, .string ⟨#[]⟩] 56)) = .ok (.string (strB v.val)) ((w.alloc (.cells #[.int .u64 v.slot, .int .u64 v.ballot, .slice so v.val.length sc] 39)).alloc (.cells #[.int .u64 0, .int .u64 0, .string ⟨#[]⟩] 56)) := run_strB Try.underlying30 Try.underlying5 Try.underlying9 (hs.below hB (Nat.le_refl _))
  obtain ⟨e0, e1, e2⟩ := cells3 k0
  clear hB k0 k1 k2
  go_enter Try.func38, Try.ntmps38
  go_wp2_with fail
  clear e0 e1 e2 rc
  obtain ⟨_, k1, _, hB⟩ := two_new w (.cells #[.int .u64 v.slot, .int .u64 v.ballot, .slice so v.val.length sc] 39) (.cells #[.int .u64 v.slot, .int .u64 v.ballot, .string (strB v.val)] 56)
  generalize (w.alloc (.cells #[.int .u64 v.slot, .int .u64 v.ballot, .slice so v.val.length sc] 39)).alloc (.cells #[.int .u64 v.slot, .int .u64 v.ballot, .string (strB v.val)] 56) = W5 at *
  obtain ⟨s0, s1, s2⟩ := cells3 k1
  have HB := Lib.hid hB
  clear hB k1
  refine bodyPost_ret (v := rvV v) (by simp [results, Try.results38, go_sem, s0, s1, s2, rvV]) rfl ?_
  exact ⟨rfl, HB.out⟩
/-- What is short. -/
def FewL (x : Lc) : Prop := x.vts.length ≤ 8 ∧ x.val.length ≤ 40 ∧ ∀ v ∈ x.vts, v.val.length ≤ 40
def RetFew (w : World) (x : Lc) (e : Ending) (w' : World) : Prop := (∃ b, e = .returned (.bool b) ∧ (b = true → FewL x)) ∧ Below w.heap.size w w'
theorem cells7 {W : World} {b : Nat} {x0 x1 x2 x3 x4 x5 x6 : Value} {t : TypeId} {fr : Nat × Nat} (h : W.heap[b]? = some (.cells #[x0, x1, x2, x3, x4, x5, x6] t fr)) :
    W.cell? ⟨b, 0, none⟩ = some x0 ∧ W.cell? ⟨b, 1, none⟩ = some x1 ∧ W.cell? ⟨b, 2, none⟩ = some x2 ∧ W.cell? ⟨b, 3, none⟩ = some x3 ∧ W.cell? ⟨b, 4, none⟩ = some x4 ∧ W.cell? ⟨b, 5, none⟩ = some x5 ∧ W.cell? ⟨b, 6, none⟩ = some x6 :=
  ⟨World.news_of_block h 0 _ rfl, World.news_of_block h 1 _ rfl, World.news_of_block h 2 _ rfl, World.news_of_block h 3 _ rfl, World.news_of_block h 4 _ rfl, World.news_of_block h 5 _ rfl, World.news_of_block h 6 _ rfl⟩
set_option maxHeartbeats 8000000 in
theorem lfew_any {w : World} {x : Lc} {so vo : Option Addr} {sc vc : Nat} (hv : VtL w (.slice vo x.vts.length vc) x.vts) : Calls Try.prog 30 #[.agg #[.int .i64 x.kind, .int .i64 x.node, .int .u64 x.ballot, .int .u64 x.slot, .int .u64 x.low, .slice so x.val.length sc, .slice vo x.vts.length vc]] w (RetFew w x) := by
  obtain ⟨kd, nd, b, sl, lo, xs, vs⟩ := x
  simp only at hv
  have HV := Lib.hid hv
  simp only
  clear hv
  go_enter Try.func30, Try.ntmps30
  by_cases h8 : 8 < vs.length
  · have d1 : (8 : Int) < (vs.length : Int) := by omega
    obtain ⟨e0, e1, e2, e3, e4, e5, e6⟩ := cells7 (heap_alloc_new w (.cells #[.int .i64 kd, .int .i64 nd, .int .u64 b, .int .u64 sl, .int .u64 lo, .slice so xs.length sc, .slice vo vs.length vc] 68))
    go_wp2_with fail
    go_ret
    exact ⟨⟨false, rfl, by simp⟩, (Below.refl w.heap.size w).alloc (Nat.le_refl _) _⟩
  have d1 : decide ((8 : Int) < (vs.length : Int)) = false := decide_eq_false (by omega)
  by_cases h40 : 40 < xs.length
  · have d2 : (40 : Int) < (xs.length : Int) := by omega
    obtain ⟨e0, e1, e2, e3, e4, e5, e6⟩ := cells7 (heap_alloc_new w (.cells #[.int .i64 kd, .int .i64 nd, .int .u64 b, .int .u64 sl, .int .u64 lo, .slice so xs.length sc, .slice vo vs.length vc] 68))
    go_wp2_with fail
    go_ret
    exact ⟨⟨false, rfl, by simp⟩, (Below.refl w.heap.size w).alloc (Nat.le_refl _) _⟩
  have d2 : decide ((40 : Int) < (xs.length : Int)) = false := decide_eq_false (by omega)
  by_cases hs : 5000 < sl ∧ sl < 18446744073709551000
  · obtain ⟨hs1, hs2⟩ := hs
    obtain ⟨e0, e1, e2, e3, e4, e5, e6⟩ := cells7 (heap_alloc_new w (.cells #[.int .i64 kd, .int .i64 nd, .int .u64 b, .int .u64 sl, .int .u64 lo, .slice so xs.length sc, .slice vo vs.length vc] 68))
    go_wp2_with fail
    go_ret
    exact ⟨⟨false, rfl, by simp⟩, (Below.refl w.heap.size w).alloc (Nat.le_refl _) _⟩
  by_cases hl : 5000 < lo ∧ lo < 18446744073709551000
  · obtain ⟨hl1, hl2⟩ := hl
    rcases (by omega : sl ≤ 5000 ∨ 18446744073709551000 ≤ sl) with hs1 | hs1
    · have d3 : decide (5000 < sl) = false := decide_eq_false (by omega)
      obtain ⟨e0, e1, e2, e3, e4, e5, e6⟩ := cells7 (heap_alloc_new w (.cells #[.int .i64 kd, .int .i64 nd, .int .u64 b, .int .u64 sl, .int .u64 lo, .slice so xs.length sc, .slice vo vs.length vc] 68))
      go_wp2_with fail
      go_ret
      exact ⟨⟨false, rfl, by simp⟩, (Below.refl w.heap.size w).alloc (Nat.le_refl _) _⟩
    · have d3 : decide (sl < 18446744073709551000) = false := decide_eq_false (by omega)
      have d4 : (5000 : Int) < sl := by omega
      obtain ⟨e0, e1, e2, e3, e4, e5, e6⟩ := cells7 (heap_alloc_new w (.cells #[.int .i64 kd, .int .i64 nd, .int .u64 b, .int .u64 sl, .int .u64 lo, .slice so xs.length sc, .slice vo vs.length vc] 68))
      go_wp2_with fail
      go_ret
      exact ⟨⟨false, rfl, by simp⟩, (Below.refl w.heap.size w).alloc (Nat.le_refl _) _⟩
  have hss : (decide (5000 < sl) = false) ∨ (5000 < sl ∧ decide (sl < 18446744073709551000) = false) := by
    by_cases h : 5000 < sl
    · exact Or.inr ⟨h, decide_eq_false (fun h2 => hs ⟨h, h2⟩)⟩
    · exact Or.inl (decide_eq_false h)
  have hls : (decide (5000 < lo) = false) ∨ (5000 < lo ∧ decide (lo < 18446744073709551000) = false) := by
    by_cases h : 5000 < lo
    · exact Or.inr ⟨h, decide_eq_false (fun h2 => hl ⟨h, h2⟩)⟩
    · exact Or.inl (decide_eq_false h)
  clear hs hl
  rcases hss with g1 | ⟨g1, g2⟩ <;> rcases hls with g3 | ⟨g3, g4⟩
  all_goals
    obtain ⟨e0, e1, e2, e3, e4, e5, e6⟩ := cells7 (heap_alloc_new w (.cells #[.int .i64 kd, .int .i64 nd, .int .u64 b, .int .u64 sl, .int .u64 lo, .slice so xs.length sc, .slice vo vs.length vc] 68))
    go_wp2_with fail
    have HB := Lib.hid ((Below.refl w.heap.size w).alloc (Nat.le_refl _) (.cells #[.int .i64 kd, .int .i64 nd, .int .u64 b, .int .u64 sl, .int .u64 lo, .slice so xs.length sc, .slice vo vs.length vc] 68))
    generalize w.alloc (.cells #[.int .i64 kd, .int .i64 nd, .int .u64 b, .int .u64 sl, .int .u64 lo, .slice so xs.length sc, .slice vo vs.length vc] 68) = W at *
    go_loopw [3] (fun i wr => ∃ k : Nat, k ≤ vs.length ∧ i = .int .i64 k ∧ (∀ v ∈ vs.take k, v.val.length ≤ 40) ∧ Below W.heap.size W wr) (fun i _ => vs.length - (intOf i).toNat)
    case atStart => exact ⟨0, by omega, rfl, by simp, Below.refl _ _⟩
    case round =>
      obtain ⟨k, hk, rfl, hall, hd⟩ := hrel
      have HAll := Lib.hid hall
      have HD := Lib.hid hd
      replace e6 := (hd.cell (World.block_lt_of_cell? _ _ e6)).trans e6
      clear hall hd
      by_cases hlt : k < vs.length
      · have hki : (k : Int) < (vs.length : Int) := by omega
        obtain ⟨_, _, hh, _, _, hvx⟩ := HV.out
        cases hh
        obtain ⟨a, sv, rfl, y0, y1, y2, ysl⟩ := hvx k _ (List.getElem?_eq_getElem hlt)
        obtain ⟨_, _, rfl, _, _⟩ := ysl.form
        simp only [List.length_map] at y2
        replace y0 := (((HB.out.trans (HD.out.mono HB.out.size)).cell (World.block_lt_of_cell? _ _ y0))).trans y0
        replace y2 := (((HB.out.trans (HD.out.mono HB.out.size)).cell (World.block_lt_of_cell? _ _ y2))).trans y2
        have HT := Lib.hid (List.take_succ_eq_append_getElem hlt)
        generalize vs[k] = q at *
        obtain ⟨qs, qb, qv⟩ := q
        simp only at y0 y2
        clear hvx y1 ysl
        by_cases l40 : 40 < qv.length
        · have l1 : (40 : Int) < (qv.length : Int) := by omega
          go_wp2_with fail
          go_ret
          exact ⟨⟨false, rfl, by simp⟩, HB.out.trans (HD.out.mono HB.out.size)⟩
        · have l1 : decide ((40 : Int) < (qv.length : Int)) = false := decide_eq_false (by omega)
          have HAll2 : Hid (∀ v ∈ vs.take (k + 1), v.val.length ≤ 40) := Lib.hid (by
            intro v hv
            rw [HT.out] at hv
            rcases List.mem_append.1 hv with hv | hv
            · exact HAll.out v hv
            · simp at hv; subst hv; exact by simp only; omega)
          by_cases s3 : 300 < qs
          · by_cases s4 : qs < 18446744073709551000
            · go_wp2_with fail
              go_ret
              exact ⟨⟨false, rfl, by simp⟩, HB.out.trans (HD.out.mono HB.out.size)⟩
            · have s5 : decide (qs < 18446744073709551000) = false := decide_eq_false s4
              go_wp2_with fail
              go_roundw
              case rel => exact ⟨k + 1, by omega, by go_num, HAll2.out, HD.out⟩
              case measure => simp [intOf]; omega
          · have s5 : decide (300 < qs) = false := decide_eq_false s3
            go_wp2_with fail
            go_roundw
            case rel => exact ⟨k + 1, by omega, by go_num, HAll2.out, HD.out⟩
            case measure => simp [intOf]; omega
      · have hkl : k = vs.length := by omega
        subst hkl
        rw [List.take_length] at HAll
        go_wp2_with fail
        go_ret
        exact ⟨⟨true, rfl, fun _ => ⟨by simp only; omega, by simp only; omega, HAll.out⟩⟩, HB.out.trans (HD.out.mono HB.out.size)⟩
end Go.Proofs.Ytjdjfhioobhcjaa
