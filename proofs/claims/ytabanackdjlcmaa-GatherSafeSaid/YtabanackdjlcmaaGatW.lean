/-
  A gatherer as an object; the example of the law's package.
-/
import Derived.Test.YtabanackdjlcmaaGat3
namespace Go.Proofs.Ytabanackdjlcmaa
open Go.ChangeShapes Go.WideShapes Go.ChangeAt Go.RowKit Go.Maps
set_option maxRecDepth 100000

/-- A gatherer at p, all of whose blocks are of D; at most N reports were noted. -/
def GatO (p : Value) (D : Nat → Prop) (w : World) (N : Nat) (m : Rep) : Prop := ∃ b0 bm n, p = .pointer (some ⟨b0, 0, none⟩) ∧ GatR w D b0 bm n m ∧ n ≤ N
theorem GatO.step {p : Value} {D : Nat → Prop} {w w' : World} {N : Nat} {m : Rep} (h : GatO p D w N m) (hb : Below w.heap.size w w') : GatO p D w' N m := by
  obtain ⟨b0, bm, n, h1, h2, h3⟩ := h
  exact ⟨b0, bm, n, h1, h2.below hb (Nat.le_refl _), h3⟩
theorem GatO.keep {p : Value} {S D : Nat → Prop} {w w' : World} {N : Nat} {m : Rep} (h : GatO p D w N m) (hk : Keep S w w') (hS : ∀ k, S k → ¬ D k) : GatO p D w' N m := by
  obtain ⟨b0, bm, n, h1, h2, h3⟩ := h
  exact ⟨b0, bm, n, h1, h2.keep hk hS, h3⟩
theorem GatO.ptr {p : Value} {D : Nat → Prop} {w : World} {N : Nat} {m : Rep} (h : GatO p D w N m) : ∃ b0, p = .pointer (some ⟨b0, 0, none⟩) := by
  obtain ⟨b0, bm, n, h1, h2, h3⟩ := h; exact ⟨b0, h1⟩
theorem GatO.small {p : Value} {D : Nat → Prop} {w : World} {N : Nat} {m : Rep} (h : GatO p D w N m) : ∀ a b xs, m a b = some xs → xs.length ≤ 4 := by
  obtain ⟨b0, bm, n, h1, h2, h3⟩ := h; exact h2.small
theorem GatO.lt {p : Value} {D : Nat → Prop} {w : World} {N : Nat} {m : Rep} (h : GatO p D w N m) : ∀ k, D k → k < w.heap.size := by
  obtain ⟨b0, bm, n, h1, h2, h3⟩ := h; exact h2.lt
theorem gnew_o (w : World) : Calls Try.prog 14 #[] w fun e w' => ∃ p D, e = .returned p ∧ GatO p D w' 0 (fun _ _ => none) ∧ (∀ k, D k → w.heap.size ≤ k) ∧ Below w.heap.size w w' :=
  (gnew_any w).mono fun _ _ ⟨h1, h2, h3⟩ => ⟨_, _, h1, ⟨_, _, _, rfl, h2, Nat.le_refl _⟩, fun k hk => by omega, h3⟩
theorem GatO.report {p v : Value} {D : Nat → Prop} {w : World} {N : Nat} {m : Rep} (h : GatO p D w N m) {s r : Int} {xs : List Int} (hv : SlR w v (u64s xs)) (lx : xs.length ≤ 4) (hs : 0 ≤ s ∧ s < 8) (hr : 0 ≤ r ∧ r < 4) (hn : N < 1000000) :
    Calls Try.prog 15 #[p, .int .i64 s, .int .i64 r, v] w fun e w' => e = .returned (.int .i64 0) ∧ ∃ D' : Nat → Prop, GatO p D' w' (N + 1) (repG m s r xs) ∧ (∀ k, D' k → D k ∨ w.heap.size ≤ k) ∧ Keep D w w' := by
  obtain ⟨b0, bm, n, rfl, h2, h3⟩ := h
  refine (report_any h2 hv lx hs hr (by omega)).mono ?_
  rintro e w' ⟨he, D', h4, h5, h6⟩
  exact ⟨he, D', ⟨b0, bm, n + 1, rfl, h4, by omega⟩, h5, h6.mono (fun k _ hk => by subst hk; exact h2.dm)⟩
theorem GatO.least {p : Value} {D : Nat → Prop} {w : World} {N : Nat} {m : Rep} (h : GatO p D w N m) {s : Int} {many : Nat} (hs : Small s) (h1 : 1 ≤ many) (h4 : many ≤ 4) :
    Calls Try.prog 16 #[p, .int .i64 s, .int .i64 many] w fun e w' => ∃ v, e = .returned (.tuple #[v, .bool (leastB m s many)]) ∧ SlR w' v (u64s (leastM m s many)) ∧ Below w.heap.size w w' := by
  obtain ⟨b0, bm, n, rfl, h2, h3⟩ := h
  refine (least_any h2 hs h1 h4).mono ?_
  rintro e w' ⟨v, h5, h6, h7, _⟩
  exact ⟨v, h5, h6, h7⟩
theorem GatO.row {p v fin : Value} {D : Nat → Prop} {w : World} {N : Nat} {m : Rep} (h : GatO p D w N m) {id : Int} {segs : Nat} {lens : List Int} (hs : Small id) (h1 : 1 ≤ segs) (h4 : segs ≤ 4) (hv : SlR w v (u64s lens)) (ll : lens.length ≤ 1048576) :
    Calls Try.prog 18 #[p, .agg #[.int .i64 id, .int .i64 segs, v, fin]] w fun e w' => ∃ v', e = .returned (.agg #[.int .i64 id, v']) ∧ SlR w' v' (u64s (rowL m id segs lens)) ∧ Below w.heap.size w w' := by
  obtain ⟨b0, bm, n, rfl, h2, h3⟩ := h
  refine (row_any h2 hs h1 h4 hv ll).mono ?_
  rintro e w' ⟨v, h5, h6, h7, _⟩
  exact ⟨v, h5, h6, h7⟩
theorem GatO.cut {p v : Value} {D : Nat → Prop} {w : World} {N : Nat} {m : Rep} (h : GatO p D w N m) {hs : List Sh} (hv : ShL w v hs) (hok : ∀ s ∈ hs, ShOk s) (hl : hs.length ≤ 1000) :
    Calls Try.prog 21 #[p, v] w fun e w' => ∃ rv, e = .returned (.tuple #[cmdV 4 0 0 0 0 0 rv, .bool (decide (0 < (cutL m hs).length))]) ∧ RowsL w' rv (cutL m hs) ∧ Below w.heap.size w w' := by
  obtain ⟨b0, bm, n, rfl, h2, h3⟩ := h
  exact cut_cmd h2 hv hok hl

theorem GatO.cutD {p v : Value} {D : Nat → Prop} {w : World} {N : Nat} {m : Rep} (h : GatO p D w N m) {hs : List Sh} (hv : ShL w v hs) (hok : ∀ s ∈ hs, ShOk s) (hl : hs.length ≤ 1000) :
    Calls Try.prog 21 #[p, v] w fun e w' => ∃ rv, e = .returned (.tuple #[cmdV 4 0 0 0 0 0 rv, .bool (decide (0 < (cutL m hs).length))]) ∧ RowsL w' rv (cutL m hs) ∧ Below w.heap.size w w' ∧ ∀ w'', Keep (fun k => k < w.heap.size) w' w'' → RowsL w'' rv (cutL m hs) := by
  obtain ⟨b0, bm, n, rfl, h2, h3⟩ := h
  exact cut_cmd2 h2 hv hok hl
theorem lit_u64 (w : World) (a : List Int) (t : TypeId) (fr : Nat × Nat) (ha : a.length ≤ 1000) : SlR (w.alloc (.cells (u64s a).toArray t fr)) (.slice (some ⟨w.heap.size, 0, none⟩) a.length a.length) (u64s a) := by
  have h : (w.alloc (.cells (u64s a).toArray t fr)).heap[w.heap.size]? = some (.cells (u64s a).toArray t fr) := heap_alloc_new w _
  refine ⟨some ⟨w.heap.size, 0, none⟩, a.length, by simp, by simp, by unfold maxLen; omega, fun i u hi => ⟨_, rfl, ?_⟩⟩
  exact World.news_of_block h i u (by simpa using hi)
theorem below_lit (w : World) (o : Obj) : Below w.heap.size w (w.alloc o) := (Below.refl _ _).alloc (Nat.le_refl _) _
theorem lit_sh (w : World) {id segs : Int} {s : Nat} {sv : Value} {lens : List Int} {fin : Bool} {t : TypeId} {fr : Nat × Nat} (hs : segs = s) (h : SlR w sv (u64s lens)) : ShL (w.alloc (.cells #[.int .i64 id, .int .i64 segs, sv, .bool fin] t fr)) (.slice (some ⟨w.heap.size, 0, none⟩) 1 1) [⟨id, s, lens, fin⟩] := by
  subst hs
  have e := heap_alloc_new w (.cells #[.int .i64 id, .int .i64 s, sv, .bool fin] t fr)
  refine ⟨_, 1, rfl, Nat.le_refl _, by omega, fun i x hx => ?_⟩
  match i, hx with
  | 0, hx =>
    simp at hx; subst hx
    exact ⟨_, sv, rfl, World.news_of_block e 0 _ rfl, World.news_of_block e 1 _ rfl, World.news_of_block e 2 _ rfl, World.news_of_block e 3 _ rfl, h.below (below_lit w _) (Nat.le_refl _)⟩

def ge0 : Rep := fun _ _ => none
def ge1 : Rep := repG ge0 1 0 [3, 1]
def ge2 : Rep := repG ge1 1 1 [2, 2]

set_option maxHeartbeats 2000000 in
theorem awake_any (w : World) : Calls Try.prog 13 #[] w fun e w' => e = .returned (.bool true) ∧ Below w.heap.size w w' := by
  go_enter Try.func13, Try.ntmps13
  go_wp2_with fail
  refine (gnew_o w).mono ?_
  rintro e w1 ⟨p, D1, rfl, h1, hD1, hb1⟩
  obtain ⟨pb, rfl⟩ := h1.ptr
  have H1 : Hid (GatO (.pointer (some ⟨pb, 0, none⟩)) D1 w1 0 ge0) := Lib.hid h1
  have hb1 := Lib.hid hb1
  clear h1
  go_wp2_with fail
  refine ((H1.out.step (below_lit _ _)).report (lit_u64 w1 [3, 1] _ _ (by decide)) (by decide) (by decide) (by decide) (by decide)).mono ?_
  rintro e w2 ⟨rfl, D2, h2, hD2, hk2⟩
  have H2 : Hid (GatO (.pointer (some ⟨pb, 0, none⟩)) D2 w2 1 ge1) := Lib.hid h2
  have B2 := Lib.hid (hb1.out.trans (((below_lit w1 (.cells (u64s [3, 1]).toArray 39)).mono hb1.out.size).trans (hk2.below (by have := hb1.out.size; simp; omega) hD1)))
  have hD2 : ∀ k, D2 k → w.heap.size ≤ k := fun k hk => by
    rcases hD2 k hk with h | h
    · exact hD1 k h
    · have := hb1.out.size; simp at h; omega
  clear h2 hk2
  go_wp2_with fail
  refine (H2.out.least (s := 1) (many := 2) ⟨by decide, by decide⟩ (by decide) (by decide)).mono ?_
  rintro e w3 ⟨v3, rfl, _, hb3⟩
  rw [show leastB ge1 1 2 = false by decide]
  have H3 := Lib.hid (H2.out.step hb3)
  have B3 := Lib.hid (B2.out.trans (hb3.mono B2.out.size))
  clear hb3
  go_wp2_with fail
  refine ((H3.out.step (below_lit _ _)).report (lit_u64 w3 [2, 2] _ _ (by decide)) (by decide) (by decide) (by decide) (by decide)).mono ?_
  rintro e w4 ⟨rfl, D4, h4, hD4, hk4⟩
  have H4 : Hid (GatO (.pointer (some ⟨pb, 0, none⟩)) D4 w4 2 ge2) := Lib.hid h4
  have B4 := Lib.hid (B3.out.trans (((below_lit w3 (.cells (u64s [2, 2]).toArray 39)).mono B3.out.size).trans (hk4.below (by have := B3.out.size; simp; omega) hD2)))
  clear h4 hk4 hD2
  go_wp2_with fail
  refine (H4.out.least (s := 1) (many := 2) ⟨by decide, by decide⟩ (by decide) (by decide)).mono ?_
  rintro e w5 ⟨v5, rfl, hs5, hb5⟩
  rw [show leastB ge2 1 2 = true by decide]
  rw [show leastM ge2 1 2 = [2, 1] by decide] at hs5
  have H5 := Lib.hid (H4.out.step hb5)
  have B5 := Lib.hid (B4.out.trans (hb5.mono B4.out.size))
  have hs5 := Lib.hid hs5
  clear hb5
  have hsh : ShL ((w5.alloc (.cells #[.int .u64 1] 39)).alloc (.cells #[.int .i64 1, .int .i64 2, .slice (some ⟨w5.heap.size, 0, none⟩) 1 1, .bool false] 35)) (.slice (some ⟨w5.heap.size + 1, 0, none⟩) 1 1) [⟨1, 2, [1], false⟩] := by
    have := lit_sh (w5.alloc (.cells #[.int .u64 1] 39)) (id := 1) (segs := 2) (s := 2) (fin := false) (t := 35) (fr := (0, 0)) rfl (lit_u64 w5 [1] 39 (0, 0) (by decide))
    rw [show (w5.alloc (.cells #[.int .u64 1] 39)).heap.size = w5.heap.size + 1 by simp] at this
    exact this
  have hb6 : Below w5.heap.size w5 ((w5.alloc (.cells #[.int .u64 1] 39)).alloc (.cells #[.int .i64 1, .int .i64 2, .slice (some ⟨w5.heap.size, 0, none⟩) 1 1, .bool false] 35)) := (below_lit _ _).alloc (by simp) _
  have HSh := Lib.hid hsh
  have H6 := Lib.hid (H5.out.step hb6)
  have B6 := Lib.hid (B5.out.trans (hb6.mono B5.out.size))
  have hs6 := Lib.hid (hs5.out.below hb6 (Nat.le_refl _))
  clear hsh hb6
  go_wp2_with fail
  refine (H6.out.cut HSh.out (by intro s hs; simp at hs; subst hs; exact ⟨⟨by decide, by decide⟩, by decide, by decide, by decide⟩) (by decide)).mono ?_
  rintro e w7 ⟨rv, rfl, hr7, hb7⟩
  rw [show cutL ge2 [⟨1, 2, [1], false⟩] = [(1, [2, 1])] by decide] at *
  have H7 := Lib.hid (H6.out.step hb7)
  have B7 := Lib.hid (B6.out.trans (hb7.mono B6.out.size))
  have hs7 := hs6.out.below hb7 (Nat.le_refl _)
  obtain ⟨ro, rc, rfl, hrc1, hrc2, hrx⟩ := hr7
  obtain ⟨ra, rsv, rfl, rc0, rc1, rsl⟩ := hrx 0 _ rfl
  obtain ⟨so, sc, rfl, hsc1, hsc2, hsx⟩ := rsl.ints
  obtain ⟨sa, rfl, sc0⟩ := hsx 0 (by decide)
  obtain ⟨vo, vc, rfl, hvc1, hvc2, hvx⟩ := hs7.ints
  obtain ⟨va, rfl, vc0⟩ := hvx 0 (by decide)
  obtain ⟨va', e1, vc1⟩ := hvx 1 (by decide)
  cases e1
  simp only [List.length_cons, List.length_nil, Nat.zero_add, Nat.reduceAdd] at *
  have hA := below_lit w7 (.cells (cmdC 4 0 0 0 0 0 (.slice (some ra) 1 rc)) 46)
  have hcm := heap_alloc_new w7 (.cells (cmdC 4 0 0 0 0 0 (.slice (some ra) 1 rc)) 46)
  have hl := fun {p : Addr} {v : Value} (h : w7.cell? p = some v) => (hA.cell (World.block_lt_of_cell? w7 _ h)).trans h
  have a1 : (w7.alloc (.cells (cmdC 4 0 0 0 0 0 (.slice (some ra) 1 rc)) 46)).cell? ra = some (.int .i64 1) := by simpa [Addr.add] using hl rc0
  have a2 : (w7.alloc (.cells (cmdC 4 0 0 0 0 0 (.slice (some ra) 1 rc)) 46)).cell? ⟨ra.block, ra.off + 1, none⟩ = some (.slice (some sa) 2 sc) := by simpa [Addr.add] using hl rc1
  have a3 : (w7.alloc (.cells (cmdC 4 0 0 0 0 0 (.slice (some ra) 1 rc)) 46)).cell? sa = some (.int .u64 2) := by simpa [Addr.add] using hl sc0
  have a4 : (w7.alloc (.cells (cmdC 4 0 0 0 0 0 (.slice (some ra) 1 rc)) 46)).cell? va = some (.int .u64 2) := by simpa [Addr.add] using hl vc0
  have a5 : (w7.alloc (.cells (cmdC 4 0 0 0 0 0 (.slice (some ra) 1 rc)) 46)).cell? ⟨va.block, va.off + 1, none⟩ = some (.int .u64 1) := hl vc1
  have a6 : (w7.alloc (.cells (cmdC 4 0 0 0 0 0 (.slice (some ra) 1 rc)) 46)).cell? ⟨w7.heap.size, 0, none⟩ = some (.int .i64 4) := World.news_of_block hcm 0 _ rfl
  have a7 : (w7.alloc (.cells (cmdC 4 0 0 0 0 0 (.slice (some ra) 1 rc)) 46)).cell? ⟨w7.heap.size, 6, none⟩ = some (.slice (some ra) 1 rc) := World.news_of_block hcm 6 _ rfl
  have HA := Lib.hid hA
  clear hl hA hcm rc0 rc1 sc0 vc0 vc1 hrx rsl hsx hvx hs7
  go_wp2_with (go_at_call 15; refine (report_bad rfl (by decide) rfl).mono ?_; rintro e w' ⟨rfl, rfl⟩)
  go_ret
  exact ⟨rfl, B7.out.trans (HA.out.mono B7.out.size)⟩
end Go.Proofs.Ytabanackdjlcmaa
