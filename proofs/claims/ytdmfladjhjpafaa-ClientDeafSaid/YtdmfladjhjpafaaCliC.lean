/-
  Package client: Handle, where a message tells nothing.
-/
import Derived.Test.YtdmfladjhjpafaaCliB
import Derived.Test.YtdmfladjhjpafaaBlk3
namespace Go.Proofs.Ytdmfladjhjpafaa
open Go.ChangeShapes Go.WideShapes Go.ChangeAt Go.RowKit Go.Maps
set_option maxRecDepth 1000000

abbrev rep0 : Array Value := #[.int .u64 0, .int .i64 0, .int .i64 0, .int .i64 0, .int .u64 0, .slice none 0 0, .int .i64 0, .int .u64 0, .int .u64 0, .int .u64 0, .slice none 0 0, .int .i64 0]
theorem two_lit (w : World) (o1 o2 : Obj) : Below w.heap.size w ((w.alloc o1).alloc o2) ∧ ((w.alloc o1).alloc o2).heap[w.heap.size]? = some o1 ∧ ((w.alloc o1).alloc o2).heap[w.heap.size + 1]? = some o2 ∧ ((w.alloc o1).alloc o2).heap.size = w.heap.size + 2 := by
  have h2 := heap_alloc_new (w.alloc o1) o2
  rw [show (w.alloc o1).heap.size = w.heap.size + 1 by simp] at h2
  exact ⟨(below_lit w o1).alloc (by simp) o2, (Below.heap_alloc _ _ _ (by simp)).trans (heap_alloc_new w o1), h2, by simp⟩
/-- Nothing is told. -/
def RetHn (w : World) (e : Ending) (w' : World) : Prop := e = .returned (.tuple #[.agg rep0, .bool false]) ∧ Below w.heap.size w w'
theorem setRow_below {w w1 : World} (hb : Below w.heap.size w w1) {g : Nat} (hg : w.heap.size ≤ g) (cs : Array Value) : Below w.heap.size w (w1.setRow g cs) := by
  have hk : Keep (fun k => k = g) w1 (w1.setRow g cs) := ⟨rfl, rfl, rfl, by simp, fun k _ hk => setRow_keep w1 _ cs k hk⟩
  exact hb.trans (hk.below hb.size (fun k e => by omega))
set_option maxHeartbeats 2000000 in
theorem chandle_other {D : Nat → Prop} {w : World} {b0 bm N : Nat} {A : CS} (h : CliR w D b0 bm N A) {m : Ms} {vv bv : Value} (hne : m.client ≠ A.id) :
    Calls Try.prog 9 #[.pointer (some ⟨b0, 0, none⟩), .agg (msC m vv bv)] w (RetHn w) := by
  obtain ⟨hb, e0, e1, hz⟩ := two_lit w (.cells (msC m vv bv) 39) (.cells rep0 41)
  obtain ⟨_, _, ⟨c0, -, -, -, -⟩, -⟩ := (h.below hb (Nat.le_refl _)).cell
  have hd : (m.client != A.id) = true := by rw [bne_iff_ne]; exact hne
  have HB := Lib.hid hb
  have HE1 := Lib.hid e1
  have d5 : ((w.alloc (.cells (msC m vv bv) 39)).alloc (.cells rep0 41)).cell? ⟨w.heap.size, 5, none⟩ = some (.int .u64 m.client) := World.news_of_block e0 5 _ rfl
  have hb0 := h.lt b0 (h.dr _ (Or.inl rfl))
  clear h hne hb e0 e1
  go_enter Try.func9, Try.ntmps9
  go_upto_region 1 with fail
  obtain ⟨W1, HW1⟩ : ∃ x, x = (w.alloc (.cells (msC m vv bv) 39)).alloc (.cells rep0 41) := ⟨_, rfl⟩
  rw [← HW1] at HB HE1 c0 d5 hz ⊢
  clear HW1
  go_quiet (fail)
  clear c0 d5
  go_wp2_with (first | (refine stopBuild 41 rfl ?_) | fail)
  refine ⟨?_⟩
  refine wpList_buildA rfl 41 _ rfl rep0 (by kernel_rfl) ?_
  refine wpList_store_row rfl 41 (.tmp 4) (.tmp 21) rfl (w.heap.size + 1) rep0 (by kernel_rfl) (by kernel_rfl) 41 _ (show (W1.drewN nq).heap[w.heap.size + 1]? = _ from HE1.out) (by kernel_rfl) rfl (by kernel_rfl) ?_
  go_wp2_with fail
  refine bodyPost_cell2 rfl (w.heap.size + 1) rfl (.bool false) rfl (setRow_heap _ _ _ _ _ _ (show (W1.drewN nq).heap[w.heap.size + 1]? = _ from HE1.out)) Try.underlying41 rfl (by kernel_rfl) rfl ?_
  exact ⟨rfl, setRow_below (below_drewN HB.out nq) (by omega) _⟩
/-- What a look-up finds. -/
def oOrC : Option (Cl × Int) → Value → Array Value
  | none, _ => #[.int .i64 0, .int .i64 0, .int .i64 0, .int .u64 0, .slice none 0 0, .int .i64 0]
  | some (x, m), sv => opC x sv m
theorem CliR.look2 {D : Nat → Prop} {w : World} {b0 bm N : Nat} {A : CS} (h : CliR w D b0 bm N A) {seq : Int} (hu : U1 seq) :
    ∃ so sl sc, (∀ W : World, W.heap[bm]? = w.heap[bm]? → (Instr.lookup 55 (.map (some bm)) (.int .u64 seq) true).run Try.prog W = .ok (.tuple #[.agg (oOrC (A.l seq) (.slice so sl sc)), .bool (A.l seq).isSome]) W) ∧
      ∀ x m, A.l seq = some (x, m) → SlR w (.slice so sl sc) (u8s x.body) ∧ (∀ k, (Value.slice so sl sc).ownBlock = some k → D k ∧ ¬ CR b0 bm k) ∧ ClOk A.shards x := by
  obtain ⟨f, h1, h2, h3⟩ := h.map.at_
  have hv := h2 seq hu
  cases hs : A.l seq with
  | none =>
    rw [hs] at hv
    have hv : f (.int .u64 seq) = none := hv
    refine ⟨none, 0, 0, fun W hW => ?_, fun x m e => by cases e⟩
    rw [(h1.same hW).look_ok uKeyed Try.underlying55 (zeroCOpen W) (u_key hu), hv]
    rfl
  | some q =>
    obtain ⟨x, m⟩ := q
    rw [hs] at hv
    obtain ⟨sv, e, hsl, ho⟩ := hv
    obtain ⟨so, sc, rfl, _, _⟩ := hsl.form
    refine ⟨so, _, sc, fun W hW => ?_, fun x' m' e' => by cases e'; exact ⟨hsl, ho, (h.map.small seq x m hs).2.1⟩⟩
    rw [(h1.same hW).look_ok uKeyed Try.underlying55 (zeroCOpen W) (u_key hu), e]
    rfl
set_option maxHeartbeats 2000000 in
theorem chandle_none {D : Nat → Prop} {w : World} {b0 bm N : Nat} {A : CS} (h : CliR w D b0 bm N A) {m : Ms} {vv bv : Value} (hc : m.client = A.id) (hu : U1 m.seq) (hk : -9223372036854775808 ≤ m.kind ∧ m.kind ≤ 9223372036854775807) (hno : ∀ x k, A.l m.seq = some (x, k) → fitsB x m = false) :
    Calls Try.prog 9 #[.pointer (some ⟨b0, 0, none⟩), .agg (msC m vv bv)] w (RetHn w) := by
  obtain ⟨hb, e0, e1, hz⟩ := two_lit w (.cells (msC m vv bv) 39) (.cells rep0 41)
  obtain ⟨_, _, ⟨c0, -, -, -, c4⟩, -⟩ := (h.below hb (Nat.le_refl _)).cell
  have hd : (m.client != A.id) = false := by rw [bne_eq_false_iff_eq]; exact hc
  obtain ⟨so, sl, sc, hlk, hx⟩ := h.look2 hu
  have hbm := h.lt bm (h.dr _ (Or.inr rfl))
  have hb0 := h.lt b0 (h.dr _ (Or.inl rfl))
  have hcT : ∀ w' : World, Below ((w.alloc (.cells (msC m vv bv) 39)).alloc (.cells rep0 41)).heap.size ((w.alloc (.cells (msC m vv bv) 39)).alloc (.cells rep0 41)) w' →
      w'.cell? ⟨b0, 4, none⟩ = some (.map (some bm)) ∧ w'.cell? ⟨w.heap.size, 6, none⟩ = some (.int .u64 m.seq) ∧ (Instr.lookup 55 (.map (some bm)) (.int .u64 m.seq) true).run Try.prog w' = .ok (.tuple #[.agg (oOrC (A.l m.seq) (.slice so sl sc)), .bool (A.l m.seq).isSome]) w' := by
    intro w' hb'
    refine ⟨(hb'.cell (p := ⟨b0, 4, none⟩) (by simp; omega)).trans c4, ?_, hlk w' ((hb'.block bm (by simp; omega)).trans (hb.block bm hbm))⟩
    exact World.news_of_block ((hb'.block w.heap.size (by simp; omega)).trans e0) 6 _ rfl
  have HB := Lib.hid hb
  have HE0 := Lib.hid e0
  have HE1 := Lib.hid e1
  have d5 : ((w.alloc (.cells (msC m vv bv) 39)).alloc (.cells rep0 41)).cell? ⟨w.heap.size, 5, none⟩ = some (.int .u64 m.client) := World.news_of_block e0 5 _ rfl
  have HNo := Lib.hid hno
  have HT := Lib.hid hcT
  clear h hc hb e0 e1 hlk hx hno hcT c4
  go_enter Try.func9, Try.ntmps9
  go_upto_region 1 with fail
  obtain ⟨W1, HW1⟩ : ∃ x, x = (w.alloc (.cells (msC m vv bv) 39)).alloc (.cells rep0 41) := ⟨_, rfl⟩
  rw [← HW1] at HB HE0 HE1 HT c0 d5 hz ⊢
  clear HW1
  go_quiet (fail)
  clear c0 d5
  go_upto_region 3 with fail
  obtain ⟨W2, HW2⟩ : ∃ x, x = W1.drewN nq := ⟨_, rfl⟩
  rw [← HW2]
  have hd2 : Below W1.heap.size W1 W2 := by rw [HW2]; exact below_drewN (Below.refl _ _) _
  have hz2 : W2.heap.size = w.heap.size + 2 := by rw [HW2]; exact hz
  have hcS := HT.out _ hd2.drew
  have hcU := fun (o : Obj) => HT.out _ ((hd2.drew).alloc (show W1.heap.size ≤ W2.drew.heap.size from hd2.size) o)
  have hcV := fun (o : Obj) => HT.out _ ((hd2.alloc hd2.size o).drew)
  have HE0 := Lib.hid ((hd2.block w.heap.size (by omega)).trans HE0.out)
  have HE1 := Lib.hid ((hd2.block (w.heap.size + 1) (by omega)).trans HE1.out)
  have HB := Lib.hid (HB.out.trans (hd2.mono (by omega)))
  have HS3 : Hid (∀ W3, Below W2.heap.size W2 W3 → W3.heap[w.heap.size + 1]? = some (.cells rep0 41 (0, 0)) ∧ Below w.heap.size w W3 ∧ W3.heap[w.heap.size]? = some (.cells (msC m vv bv) 39 (0, 0))) := Lib.hid (fun W3 hb3 => ⟨(hb3.block (w.heap.size + 1) (by omega)).trans HE1.out, HB.out.trans (hb3.mono (by omega)), (hb3.block w.heap.size (by omega)).trans HE0.out⟩)
  clear hd2 HW2 HT
  cases hl : A.l m.seq with
  | none =>
    rw [hl] at hcS hcU hcV
    simp only [oOrC, Option.isSome_none] at hcS hcU hcV
    clear hl HNo
    go_region_held3 (fun w' => w'.cell? ⟨b0, 4, none⟩ = some (.map (some bm)) ∧ w'.cell? ⟨w.heap.size, 6, none⟩ = some (.int .u64 m.seq) ∧ (Instr.lookup 55 (.map (some bm)) (.int .u64 m.seq) true).run Try.prog w' = .ok (.tuple #[.agg #[.int .i64 0, .int .i64 0, .int .i64 0, .int .u64 0, .slice none 0 0, .int .i64 0], .bool false]) w') (first | exact hcS | exact hcU _ | exact hcV _ | go_keep) (fail)
    clear hcS hcU hcV
    all_goals
      go_wp2_with (first | (refine stopBuild 41 rfl ?_) | fail)
      refine ⟨?_⟩
      refine wpList_buildA rfl 41 _ rfl rep0 (by kernel_rfl) ?_
      refine wpList_store_row rfl 41 (.tmp 4) (.tmp 41) rfl (w.heap.size + 1) rep0 (by kernel_rfl) (by kernel_rfl) 41 _ (HS3.out _ (by first | exact ((Below.refl _ _).alloc (Nat.le_refl _) _).drew | exact ((Below.refl _ _).drew.alloc (Nat.le_refl _) _))).1 (by kernel_rfl) rfl (by kernel_rfl) ?_
      go_wp2_with fail
      refine bodyPost_cell2 rfl (w.heap.size + 1) rfl (.bool false) rfl (setRow_heap _ _ _ _ _ _ (HS3.out _ (by first | exact ((Below.refl _ _).alloc (Nat.le_refl _) _).drew | exact ((Below.refl _ _).drew.alloc (Nat.le_refl _) _))).1) Try.underlying41 rfl (by kernel_rfl) rfl ?_
      exact ⟨rfl, setRow_below (HS3.out _ (by first | exact ((Below.refl _ _).alloc (Nat.le_refl _) _).drew | exact ((Below.refl _ _).drew.alloc (Nat.le_refl _) _))).2.1 (by omega) _⟩
  | some q =>
    obtain ⟨x, k⟩ := q
    have hf := HNo.out x k hl
    rw [hl] at hcS hcU hcV
    simp only [oOrC, Option.isSome_some] at hcS hcU hcV
    have HF := Lib.hid (fun (W : World) => fits_any (w := W) (x := x) (m := m) (sv := .slice so sl sc) (vv := vv) (bv := bv) hk)
    rw [hf] at HF
    clear hl HNo hf
    go_region_held3 (fun w' => w'.cell? ⟨b0, 4, none⟩ = some (.map (some bm)) ∧ w'.cell? ⟨w.heap.size, 6, none⟩ = some (.int .u64 m.seq) ∧ (Instr.lookup 55 (.map (some bm)) (.int .u64 m.seq) true).run Try.prog w' = .ok (.tuple #[.agg (opC x (.slice so sl sc) k), .bool true]) w') (first | exact hcS | exact hcU _ | exact hcV _ | go_keep) (fail)
    clear hcS hcU hcV
    all_goals
      go_wp2_with (first
        | (refine wpList_loadRowW (by kernel_rfl) 39 (.tmp 3) rfl w.heap.size (msC m vv bv) 39 (HS3.out _ (by first | exact ((Below.refl _ _).alloc (Nat.le_refl _) _).drew | exact ((Below.refl _ _).drew.alloc (Nat.le_refl _) _))).2.2 rfl _ Try.underlying39 rfl (by kernel_rfl) ?_)
        | fail)
      refine (HF.out _).mono ?_
      rintro e w4 ⟨rfl, hb4⟩
      have HB4 := Lib.hid (Below.trans (by first | exact ((Below.refl _ _).alloc (Nat.le_refl _) _).drew | exact ((Below.refl _ _).drew.alloc (Nat.le_refl _) _)) (hb4.mono (by simp)))
      clear hb4
      go_wp2_with (first | (refine stopBuild 41 rfl ?_) | fail)
      refine ⟨?_⟩
      refine wpList_buildA rfl 41 _ rfl rep0 (by kernel_rfl) ?_
      refine wpList_store_row rfl 41 (.tmp 4) (.tmp 41) rfl (w.heap.size + 1) rep0 (by kernel_rfl) (by kernel_rfl) 41 _ (HS3.out _ HB4.out).1 (by kernel_rfl) rfl (by kernel_rfl) ?_
      go_wp2_with fail
      refine bodyPost_cell2 rfl (w.heap.size + 1) rfl (.bool false) rfl (setRow_heap _ _ _ _ _ _ (HS3.out _ HB4.out).1) Try.underlying41 rfl (by kernel_rfl) rfl ?_
      exact ⟨rfl, setRow_below (HS3.out _ HB4.out).2.1 (by omega) _⟩
end Go.Proofs.Ytdmfladjhjpafaa
