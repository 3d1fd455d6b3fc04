/-
  Package client: Handle, where a message tells an outcome.
-/
import Derived.Test.YtdmfladjhjpafaaCliC
import Derived.Test.YtdmfladjhjpafaaDed
namespace Go.Proofs.Ytdmfladjhjpafaa
open Go.ChangeShapes Go.WideShapes Go.ChangeAt Go.RowKit Go.Maps
set_option maxRecDepth 1000000

abbrev repC (seq : Int) (x : Cl) (sv : Value) (code p f o : Int) (bv : Value) (at_ : Int) : Array Value := #[.int .u64 seq, .int .i64 x.op, .int .i64 x.sh, .int .i64 x.sg, .int .u64 x.pos, sv, .int .i64 code, .int .u64 p, .int .u64 f, .int .u64 o, bv, .int .i64 at_]
/-- A call is struck. -/
theorem CliR.delete {D : Nat → Prop} {w : World} {b0 bm N : Nat} {A : CS} (h : CliR w D b0 bm N A) {seq : Int} (hu : U1 seq) (ty : TypeId) :
    ∃ w2, (Builtin.delete_ #[55, 28] ty #[.map (some bm), .int .u64 seq]).run Try.prog w = .ok (.tuple #[]) w2 ∧ CliR w2 D b0 bm N (setL A seq none) ∧ Keep (fun k => k = bm) w w2 ∧ w.grownBy w2 (some bm) := by
  obtain ⟨f, h1, h2, h3⟩ := h.map.at_
  obtain ⟨w2, hrun, hm2, hg2⟩ := h1.drop uKeyed Try.underlying55 (u_key hu) ty
  have hk : Keep (fun k => k = bm) w w2 := Keep.grown hg2 (fun k hk => by cases hk; rfl)
  obtain ⟨rv, ov, g1, g2, g3, g4⟩ := h.cells
  have hS : ∀ k, k = bm → D k → CR b0 bm k := fun k e _ => Or.inr e
  refine ⟨w2, hrun, ⟨⟨rv, ov, (hk.block b0 (h.lt b0 (h.dr _ (Or.inl rfl))) (fun e => h.ne e.symm)).trans g1, g2.keep hk hS (fun _ h => h) (fun _ _ h => h), g3.keep hk (fun k hk' e => (g4 k hk').2 (Or.inr e)), g4⟩, fun k hd => Nat.lt_of_lt_of_le (h.lt k hd) hk.size, h.dr, h.ne, ⟨⟨_, hm2, fun a ha => ?_, fun kl hk' => ?_⟩, fun a y q e => ?_⟩, h.num, h.ord⟩, hk, hg2⟩
  · show ClV w2 D (CR b0 bm) (delF f (.int .u64 seq) (.int .u64 a)) (if a = seq then none else A.l a)
    rw [delF_int]
    by_cases e : a = seq
    · rw [if_pos e, if_pos e]; rfl
    · rw [if_neg e, if_neg e]
      exact (h2 a ha).keep hk hS (fun _ h => h) (fun _ _ h => h)
  · refine h3 kl ?_
    unfold delF at hk'
    by_cases e : kl = .int .u64 seq
    · rw [if_pos e] at hk'; cases hk'
    · rw [if_neg e] at hk'; exact hk'
  · simp only [setL] at e
    by_cases e' : a = seq
    · rw [if_pos e'] at e; cases e
    · rw [if_neg e'] at e
      exact h.map.small a y q e
/-- A slice's elements lie in no map. -/
theorem slr_nomap {w : World} {v : Value} {cs : List Value} (h : SlR w v cs) (hne : cs ≠ []) {P : Program} {kt : TypeId} {b n : Nat} {f : Lit → Option Value} (hk : v.ownBlock = some b) (hm : MapR w P kt b n f) : False := by
  obtain ⟨ao, c, rfl, _, _, hx⟩ := h
  cases cs with
  | nil => exact hne rfl
  | cons u r =>
    obtain ⟨a, rfl, hc⟩ := hx 0 u rfl
    obtain ⟨D, ⟨es, clock, hb, _⟩, _⟩ := hm
    have e : a.block = b := by simpa [Value.ownBlock] using hk
    have : (a.add 0) = a := rfl
    rw [this] at hc
    unfold World.cell? at hc
    rw [e, hb] at hc
    cases hc
/-- An outcome is told. -/
def RetHd (D : Nat → Prop) (b0 bm N : Nat) (A : CS) (x : Cl) (m : Ms) (w : World) (e : Ending) (w' : World) : Prop :=
  ∃ so sl sc code p f o bo bl bc at_, e = .returned (.tuple #[.agg (repC m.seq x (.slice so sl sc) code p f o (.slice bo bl bc) at_), .bool true]) ∧ (x.op ≠ 2 ∨ m.code ≠ 0 → code = m.code) ∧ CliR w' D b0 bm N (setL A m.seq none) ∧ Moved D D w w'
set_option maxHeartbeats 4000000 in
theorem chandle_ok {D : Nat → Prop} {w : World} {b0 bm N : Nat} {A : CS} (h : CliR w D b0 bm N A) {m : Ms} {vv bv : Value} (hc : m.client = A.id) (hu : U1 m.seq) (hk : -9223372036854775808 ≤ m.kind ∧ m.kind ≤ 9223372036854775807) (hbv : SlR w bv (u8s m.body)) (h8 : U8 m.body) (hbl : m.body.length ≤ 1000000000) {x : Cl} {k : Int} (hl : A.l m.seq = some (x, k)) (hfit : fitsB x m = true) :
    Calls Try.prog 9 #[.pointer (some ⟨b0, 0, none⟩), .agg (msC m vv bv)] w (RetHd D b0 bm N A x m w) := by
  obtain ⟨hb, e0, e1, hz⟩ := two_lit w (.cells (msC m vv bv) 39) (.cells rep0 41)
  obtain ⟨_, _, ⟨c0, -, -, -, c4⟩, -⟩ := (h.below hb (Nat.le_refl _)).cell
  have hd : (m.client != A.id) = false := by rw [bne_eq_false_iff_eq]; exact hc
  obtain ⟨so, sl, sc, hlk, hx⟩ := h.look2 hu
  rw [hl] at hlk
  obtain ⟨hsl, hso, hok⟩ := hx x k hl
  have hbm := h.lt bm (h.dr _ (Or.inr rfl))
  have hb0 := h.lt b0 (h.dr _ (Or.inl rfl))
  have hcT : ∀ w' : World, Below ((w.alloc (.cells (msC m vv bv) 39)).alloc (.cells rep0 41)).heap.size ((w.alloc (.cells (msC m vv bv) 39)).alloc (.cells rep0 41)) w' →
      w'.cell? ⟨b0, 4, none⟩ = some (.map (some bm)) ∧ w'.cell? ⟨w.heap.size, 6, none⟩ = some (.int .u64 m.seq) ∧ (Instr.lookup 55 (.map (some bm)) (.int .u64 m.seq) true).run Try.prog w' = .ok (.tuple #[.agg (opC x (.slice so sl sc) k), .bool true]) w' := by
    intro w' hb'
    refine ⟨(hb'.cell (p := ⟨b0, 4, none⟩) (by simp; omega)).trans c4, ?_, hlk w' ((hb'.block bm (by simp; omega)).trans (hb.block bm hbm))⟩
    exact World.news_of_block ((hb'.block w.heap.size (by simp; omega)).trans e0) 6 _ rfl
  have H := Lib.hid h
  have HB := Lib.hid hb
  have HE0 := Lib.hid e0
  have HE1 := Lib.hid e1
  have d5 : ((w.alloc (.cells (msC m vv bv) 39)).alloc (.cells rep0 41)).cell? ⟨w.heap.size, 5, none⟩ = some (.int .u64 m.client) := World.news_of_block e0 5 _ rfl
  have HT := Lib.hid hcT
  have HBv := Lib.hid hbv
  have H8 := Lib.hid h8
  have HOk := Lib.hid hok
  have hf0 := fun (W : World) => fits_any (w := W) (x := x) (m := m) (sv := .slice so sl sc) (vv := vv) (bv := bv) hk
  rw [hfit] at hf0
  have HF := Lib.hid hf0
  have HFt := Lib.hid hfit
  obtain ⟨bo, bc, rfl, _, _⟩ := hbv.form
  simp only [List.length_map] at *
  clear h hc hb e0 e1 hlk hx hcT c4 hsl hso hok hl hf0 hfit hbv h8
  go_enter Try.func9, Try.ntmps9
  go_upto_region 1 with fail
  obtain ⟨W1, HW1⟩ : ∃ x, x = (w.alloc (.cells (msC m vv (.slice bo m.body.length bc)) 39)).alloc (.cells rep0 41) := ⟨_, rfl⟩
  rw [← HW1] at HB HE0 HE1 HT c0 d5 hz ⊢
  clear HW1
  go_quiet (fail)
  clear c0 d5
  go_upto_region 3 with fail
  obtain ⟨W2, HW2⟩ : ∃ x, x = W1.drewN nq := ⟨_, rfl⟩
  rw [← HW2]
  have hd2 : Below W1.heap.size W1 W2 := by rw [HW2]; exact below_drewN (Below.refl _ _) _
  have hz2 : W2.heap.size = w.heap.size + 2 := by rw [HW2]; exact hz
  have hcS := HT.out _ hd2.drew
  have hcU := fun (o : Obj) => HT.out _ ((hd2.drew).alloc (show W1.heap.size ≤ W2.drew.heap.size from hd2.size) o)
  have hcV := fun (o : Obj) => HT.out _ ((hd2.alloc hd2.size o).drew)
  have HE0 := Lib.hid ((hd2.block w.heap.size (by omega)).trans HE0.out)
  have HE1 := Lib.hid ((hd2.block (w.heap.size + 1) (by omega)).trans HE1.out)
  have HB := Lib.hid (HB.out.trans (hd2.mono (by omega)))
  clear hd2 HW2 HT
  go_cut [6, 7] (fun s6 s7 wx => s6 = .pointer (some ⟨w.heap.size + 2, 0, none⟩) ∧ s7 = .bool true ∧ Below W2.heap.size W2 wx ∧ wx.heap[w.heap.size + 2]? = some (.cells (opC x (.slice so sl sc) k) 61 (0, 0)))
  case first =>
    go_region_held3 (fun w' => w'.cell? ⟨b0, 4, none⟩ = some (.map (some bm)) ∧ w'.cell? ⟨w.heap.size, 6, none⟩ = some (.int .u64 m.seq) ∧ (Instr.lookup 55 (.map (some bm)) (.int .u64 m.seq) true).run Try.prog w' = .ok (.tuple #[.agg (opC x (.slice so sl sc) k), .bool true]) w') (first | exact hcS | exact hcU _ | exact hcV _ | go_keep) (fail)
    all_goals
      go_wp2_with fail
      go_meet
      first
        | exact ⟨rfl, rfl, ((Below.refl _ _).alloc (Nat.le_refl _) _).drew, by rw [← hz2]; exact heap_alloc_new W2 _⟩
        | exact ⟨rfl, rfl, ((Below.refl _ _).drew.alloc (Nat.le_refl _) _), by rw [← hz2]; exact heap_alloc_new W2.drew _⟩
  case rest =>
    clear hcS hcU hcV
    obtain ⟨rfl, rfl, hb3, e3⟩ := hcut
    have hs3 := hb3.size
    have e0 := (hb3.block w.heap.size (by omega)).trans HE0.out
    have e1 := (hb3.block (w.heap.size + 1) (by omega)).trans HE1.out
    have HB3 := Lib.hid (HB.out.trans (hb3.mono (by omega)))
    have q0 : wc.cell? ⟨w.heap.size + 2, 0, none⟩ = some (.int .i64 x.op) := World.news_of_block e3 0 _ rfl
    have q1 : wc.cell? ⟨w.heap.size + 2, 1, none⟩ = some (.int .i64 x.sh) := World.news_of_block e3 1 _ rfl
    have q2 : wc.cell? ⟨w.heap.size + 2, 2, none⟩ = some (.int .i64 x.sg) := World.news_of_block e3 2 _ rfl
    have q3 : wc.cell? ⟨w.heap.size + 2, 3, none⟩ = some (.int .u64 x.pos) := World.news_of_block e3 3 _ rfl
    have q4 : wc.cell? ⟨w.heap.size + 2, 4, none⟩ = some (.slice so sl sc) := World.news_of_block e3 4 _ rfl
    have hlt3 := (Array.getElem?_eq_some_iff.1 e3).1
    have HC0 := Lib.hid e0
    have HC1 := Lib.hid e1
    have HC3 := Lib.hid e3
    have HZ2 := Lib.hid hz2
    clear e0 e1 e3 hb3 hs3 HE0 HE1 HB hz hz2
    go_upto_region 6 with (first
      | (refine wpList_loadRowW (by kernel_rfl) 39 (.tmp 3) rfl w.heap.size _ 39 HC0.out rfl _ Try.underlying39 rfl (by kernel_rfl) ?_)
      | (refine (HF.out _).mono ?_
         rintro e w4 ⟨rfl, hb4⟩)
      | fail)
    have hs4 := hb4.size
    have e0 := (hb4.block w.heap.size (by omega)).trans HC0.out
    have e1 := (hb4.block (w.heap.size + 1) (by omega)).trans HC1.out
    have e3 := (hb4.block (w.heap.size + 2) (by omega)).trans HC3.out
    have hb5 := HB3.out.trans (hb4.mono (by omega))
    have hR4 := H.out.below hb5 (Nat.le_refl _)
    obtain ⟨W7, hrun, hR7, hk7, hg7⟩ := CliR.delete (w := w4.drew) (hR4.below (Below.refl _ _).drew (Nat.le_refl _)) hu 0
    obtain ⟨_, _, ⟨-, -, -, -, c4⟩, -⟩ := hR4.cell
    have d6 : w4.cell? ⟨w.heap.size, 6, none⟩ = some (.int .u64 m.seq) := World.news_of_block e0 6 _ rfl
    have r4 := hg7.cell (a := ⟨b0, 4, none⟩) c4 (by simp; have := H.out.ne; omega)
    have r6 := hg7.cell (a := ⟨w.heap.size, 6, none⟩) d6 (by simp; omega)
    have HB5 := Lib.hid hb5
    have HE0 := Lib.hid e0
    have HE1 := Lib.hid e1
    have HE3 := Lib.hid e3
    have HR7 := Lib.hid hR7
    have HK7 := Lib.hid hk7
    have HR4 := Lib.hid hR4
    clear hR4
    clear e0 e1 e3 hb4 hb5 hR7 hk7 hg7 q0 q1 q2 q3 q4 HC0 HC1 HC3 HF HR4
    go_region_held3 (fun w' => w'.cell? ⟨b0, 4, none⟩ = some (.map (some bm)) ∧ w'.cell? ⟨w.heap.size, 6, none⟩ = some (.int .u64 m.seq)) (first | go_keep) (first | fail)
    -- behind
    clear r4 r6 c4 d6 hrun
    have hs7 := HK7.out.size
    have hs7 : w.heap.size + 3 ≤ W7.heap.size := by simp at hs7; omega
    have e0 := (HK7.out.block w.heap.size (by simp; omega) (by omega)).trans (show w4.drew.heap[w.heap.size]? = _ from HE0.out)
    have e1 := (HK7.out.block (w.heap.size + 1) (by simp; omega) (by omega)).trans (show w4.drew.heap[w.heap.size + 1]? = _ from HE1.out)
    have e3 := (HK7.out.block (w.heap.size + 2) (by simp; omega) (by omega)).trans (show w4.drew.heap[w.heap.size + 2]? = _ from HE3.out)
    have hmv : Moved D D w W7 := Moved.of (((Below.keep0 D HB5.out).drew).trans (HK7.out.mono (fun k _ e => by subst e; exact H.out.dr _ (Or.inr rfl))))
    have hbv7 : SlR W7 (.slice bo m.body.length bc) (u8s m.body) := ((HBv.out.below HB5.out (Nat.le_refl _)).below (Below.refl _ _).drew (Nat.le_refl _)).keepE HK7.out (fun hne k hk' e => by
      subst e
      obtain ⟨f, hf, _⟩ := H.out.map.at_
      exact slr_nomap HBv.out hne hk' hf)
    have HMv := Lib.hid hmv
    have HBv7 := Lib.hid hbv7
    have d3 : W7.cell? ⟨w.heap.size, 3, none⟩ = some (.int .i64 m.sh) := World.news_of_block e0 3 _ rfl
    have d6 : W7.cell? ⟨w.heap.size, 6, none⟩ = some (.int .u64 m.seq) := World.news_of_block e0 6 _ rfl
    have d7 : W7.cell? ⟨w.heap.size, 7, none⟩ = some (.int .u64 m.pos) := World.news_of_block e0 7 _ rfl
    have d8 : W7.cell? ⟨w.heap.size, 8, none⟩ = some (.int .i64 m.code) := World.news_of_block e0 8 _ rfl
    have d10 : W7.cell? ⟨w.heap.size, 10, none⟩ = some (.slice bo m.body.length bc) := World.news_of_block e0 10 _ rfl
    have q0 : W7.cell? ⟨w.heap.size + 2, 0, none⟩ = some (.int .i64 x.op) := World.news_of_block e3 0 _ rfl
    have q1 : W7.cell? ⟨w.heap.size + 2, 1, none⟩ = some (.int .i64 x.sh) := World.news_of_block e3 1 _ rfl
    have q2 : W7.cell? ⟨w.heap.size + 2, 2, none⟩ = some (.int .i64 x.sg) := World.news_of_block e3 2 _ rfl
    have q3 : W7.cell? ⟨w.heap.size + 2, 3, none⟩ = some (.int .u64 x.pos) := World.news_of_block e3 3 _ rfl
    have q4 : W7.cell? ⟨w.heap.size + 2, 4, none⟩ = some (.slice so sl sc) := World.news_of_block e3 4 _ rfl
    have HE1 := Lib.hid e1
    have hlt7 : w.heap.size + 2 < W7.heap.size := by omega
    clear e0 e1 e3 hmv hbv7 HE0 HE3 HBv HB5
    go_upto_region 8 with (first
      | (refine wpList_buildA rfl 41 _ rfl (repC m.seq x (.slice so sl sc) m.code 0 0 0 (.slice none 0 0) 0) (by kernel_rfl) ?_)
      | (refine wpList_fill rfl 41 (.tmp 8) (.tmp 54) rfl W7.heap.size rfl (repC m.seq x (.slice so sl sc) m.code 0 0 0 (.slice none 0 0) 0) _ _ rfl rfl (by kernel_rfl) rfl (by kernel_rfl) ?_)
      | fail)
    obtain ⟨W8, HW8⟩ : ∃ y, y = W7.alloc (.cells (repC m.seq x (.slice so sl sc) m.code 0 0 0 (.slice none 0 0) 0) 41) := ⟨_, rfl⟩
    rw [← HW8]
    have hb8 : Below W7.heap.size W7 W8 := by rw [HW8]; exact below_lit _ _
    have er : W8.heap[W7.heap.size]? = some (.cells (repC m.seq x (.slice so sl sc) m.code 0 0 0 (.slice none 0 0) 0) 41 (0, 0)) := by rw [HW8]; exact heap_alloc_new W7 _
    have hz8 : W8.heap.size = W7.heap.size + 1 := by rw [HW8]; simp
    have HZ8 := Lib.hid hz8
    clear HW8 hz8
    have HE1 := Lib.hid ((hb8.block (w.heap.size + 1) (by omega)).trans HE1.out)
    have d3 := (hb8.cell (p := ⟨w.heap.size, 3, none⟩) (by simp; omega)).trans d3
    have d7 := (hb8.cell (p := ⟨w.heap.size, 7, none⟩) (by simp; omega)).trans d7
    have d10 := (hb8.cell (p := ⟨w.heap.size, 10, none⟩) (by simp; omega)).trans d10
    have q0 := (hb8.cell (p := ⟨w.heap.size + 2, 0, none⟩) (by simp; omega)).trans q0
    have p6 : W8.cell? ⟨W7.heap.size, 6, none⟩ = some (.int .i64 m.code) := World.news_of_block er 6 _ rfl
    have p7 : W8.cell? ⟨W7.heap.size, 7, none⟩ = some (.int .u64 0) := World.news_of_block er 7 _ rfl
    have p8 : W8.cell? ⟨W7.heap.size, 8, none⟩ = some (.int .u64 0) := World.news_of_block er 8 _ rfl
    have p9 : W8.cell? ⟨W7.heap.size, 9, none⟩ = some (.int .u64 0) := World.news_of_block er 9 _ rfl
    have p10 : W8.cell? ⟨W7.heap.size, 10, none⟩ = some (.slice none 0 0) := World.news_of_block er 10 _ rfl
    have p11 : W8.cell? ⟨W7.heap.size, 11, none⟩ = some (.int .i64 0) := World.news_of_block er 11 _ rfl
    have hfr : ∀ j, W8.frozen? ⟨W7.heap.size, j, none⟩ = false := fun j => by simp [World.frozen?, er]
    have y6 := hfr 6
    have y7 := hfr 7
    have y8 := hfr 8
    have y9 := hfr 9
    have y10 := hfr 10
    have y11 := hfr 11
    have hR8 := HR7.out.below hb8 (Nat.le_refl _)
    have hm8 : Moved D D w W8 := Moved.of (HMv.out.keep.trans (Below.keep0 D hb8))
    have HR8 := Lib.hid hR8
    have HM8 := Lib.hid hm8
    have HEr := Lib.hid er
    have HB8 := Lib.hid hb8
    clear er hb8 hfr hR8 hm8 d6 d8 q1 q2 q3 q4
    by_cases h1 : x.op = 1
    · have t1 : (x.op == 1) = true := by rw [beq_iff_eq]; exact h1
      have HOp := Lib.hid h1
      clear h1
      go_wp2_with (first | (refine stopLoad 41 rfl ?_) | fail)
      refine ⟨?_⟩
      obtain ⟨W9, HW9⟩ : ∃ y, y = (W8.setCell ⟨W7.heap.size, 7, none⟩ (.int .u64 m.pos)) := ⟨_, rfl⟩
      rw [← HW9]
      have hk9 : Keep (fun k => k = W7.heap.size) W8 W9 := by rw [HW9]; exact Keep.setCell (S := fun k => k = W7.heap.size) (Keep.refl (fun k => k = W7.heap.size) W8) (p := ⟨W7.heap.size, 7, none⟩) (Or.inl rfl) _
      have e9 : W9.heap[W7.heap.size]? = some (.cells (repC m.seq x (.slice so sl sc) m.code m.pos 0 0 (.slice none 0 0) 0) 41 (0, 0)) := by
        rw [HW9]
        have h1 := heap_setCell_same _ W7.heap.size 7 _ _ (.int .u64 m.pos) HEr.out
        simp at h1
        exact h1
      have ef := (hk9.block (w.heap.size + 1) (by have := HZ8.out; omega) (by omega)).trans HE1.out
      have hk9s := hk9.size
      refine wpList_loadRow rfl 41 (.tmp 8) rfl W7.heap.size _ 41 e9 rfl _ Try.underlying41 rfl (by kernel_rfl) ?_
      refine wpList_store_row rfl 41 (.tmp 4) (.tmp 87) rfl (w.heap.size + 1) (repC m.seq x (.slice so sl sc) m.code m.pos 0 0 (.slice none 0 0) 0) (by kernel_rfl) (by kernel_rfl) 41 _ ef (by kernel_rfl) rfl (by kernel_rfl) ?_
      have HEf := Lib.hid ef
      have HK9 := Lib.hid hk9
      clear ef hk9 e9 HW9
      go_wp2_with fail
      refine bodyPost_cell2 rfl (w.heap.size + 1) rfl (.bool true) rfl (setRow_heap _ _ _ _ _ _ HEf.out) Try.underlying41 rfl (by kernel_rfl) rfl ?_
      have hkr : Keep (fun k => k = w.heap.size + 1) W9 (W9.setRow (w.heap.size + 1) (repC m.seq x (.slice so sl sc) m.code m.pos 0 0 (.slice none 0 0) 0)) := ⟨rfl, rfl, rfl, by simp, fun k _ hk => setRow_keep W9 _ _ k hk⟩
      have hkz : Keep (fun k => w.heap.size ≤ k) W8 (W9.setRow (w.heap.size + 1) (repC m.seq x (.slice so sl sc) m.code m.pos 0 0 (.slice none 0 0) 0)) := (HK9.out.mono (fun k _ e => by omega)).trans (hkr.mono (fun k _ e => by omega))
      exact ⟨_, _, _, _, _, _, _, _, _, _, _, rfl, (fun _ => rfl), HR8.out.keep hkz (fun k hk hd => by have := H.out.lt k hd; omega), Moved.of (((HM8.out.keep.mono (fun k _ h => Or.inl h)).trans (hkz.mono (fun k _ h => Or.inr h)) : Keep (fun k => D k ∨ w.heap.size ≤ k) w _).mono (fun k hk' h => h.resolve_right (by omega)))⟩
    · have t1 : (x.op == 1) = false := by rw [beq_eq_false_iff_ne]; exact h1
      clear h1
      by_cases h2 : x.op = 2
      · have t2 : (x.op == 2) = true := by rw [beq_iff_eq]; exact h2
        have HOp := Lib.hid h2
        clear h2
        by_cases hcd : m.code = 0
        · have t3 : (m.code == 0) = true := by rw [beq_iff_eq]; exact hcd
          have HCd := Lib.hid hcd
          clear hcd
          have HG : Hid (∀ W, Below W7.heap.size W7 W → Hid (Calls Try.prog 21 #[.slice bo m.body.length bc] W (RetDg ⟨m.body, 0⟩ W))) := Lib.hid (fun W hbW => Lib.hid (dget_any (HBv7.out.below hbW (Nat.le_refl _)) H8.out hbl))
          go_upto_region 15 with fail
          obtain ⟨W10, HW10⟩ : ∃ y, y = (W8.setCell ⟨W7.heap.size, 11, none⟩ (.int .i64 m.sh)).alloc (.cells #[.int .u64 0, .int .u64 0, .slice none 0 0] 66) := ⟨_, rfl⟩
          rw [← HW10]
          have hz8 := HZ8.out
          have hk10 : Keep (fun k => W7.heap.size ≤ k) W8 W10 := by rw [HW10]; exact (Keep.setCell (S := fun k => W7.heap.size ≤ k) (Keep.refl _ _) (p := ⟨W7.heap.size, 11, none⟩) (Or.inl (Nat.le_refl _)) _).alloc _
          have e10 : W10.heap[W7.heap.size]? = some (.cells (repC m.seq x (.slice so sl sc) m.code 0 0 0 (.slice none 0 0) m.sh) 41 (0, 0)) := by
            rw [HW10]
            have h1 := heap_setCell_same _ W7.heap.size 11 _ _ (.int .i64 m.sh) HEr.out
            simp at h1
            exact (Below.heap_alloc _ _ _ (by simp; omega)).trans h1
          have en : W10.heap[W8.heap.size]? = some (.cells #[.int .u64 0, .int .u64 0, .slice none 0 0] 66 (0, 0)) := by
            rw [HW10]
            have h1 := heap_alloc_new (W8.setCell ⟨W7.heap.size, 11, none⟩ (.int .i64 m.sh)) (.cells #[.int .u64 0, .int .u64 0, .slice none 0 0] 66)
            rw [show (W8.setCell ⟨W7.heap.size, 11, none⟩ (.int .i64 m.sh)).heap.size = W8.heap.size by simp] at h1
            exact h1
          have hz10 : W10.heap.size = W8.heap.size + 1 := by rw [HW10]; simp
          have d10 : W10.cell? ⟨w.heap.size, 10, none⟩ = some (.slice bo m.body.length bc) := hk10.cell d10 (by show ¬ W7.heap.size ≤ w.heap.size; omega)
          have hb10 : Below W7.heap.size W7 W10 := HB8.out.trans (hk10.below (by omega) (fun k h => h))
          have HK10 := Lib.hid hk10
          have HE10 := Lib.hid e10
          have HEn := Lib.hid en
          have HZ10 := Lib.hid hz10
          have HGg := HG.out _ hb10
          clear HW10 hk10 e10 en hz10 hb10 p6 p7 p8 p9 p10 p11 y6 y7 y8 y9 y10 y11 d3 d7 q0 hz8
          go_wp2_with fail
          refine HGg.out.mono ?_
          rintro e w11 ⟨c, s, ao, l, cap, code, rfl, hb11, -, -, -⟩
          have hz8 := HZ8.out
          have hz10 := HZ10.out
          have e11 := (hb11.block W7.heap.size (by omega)).trans HE10.out
          have en1 := (hb11.block W8.heap.size (by omega)).trans HEn.out
          have p0 : w11.cell? ⟨W8.heap.size, 0, none⟩ = some (.int .u64 0) := World.news_of_block en1 0 _ rfl
          have p1 : w11.cell? ⟨W8.heap.size, 1, none⟩ = some (.int .u64 0) := World.news_of_block en1 1 _ rfl
          have p2 : w11.cell? ⟨W8.heap.size, 2, none⟩ = some (.slice none 0 0) := World.news_of_block en1 2 _ rfl
          have p6 : w11.cell? ⟨W7.heap.size, 6, none⟩ = some (.int .i64 m.code) := World.news_of_block e11 6 _ rfl
          have p8 : w11.cell? ⟨W7.heap.size, 8, none⟩ = some (.int .u64 0) := World.news_of_block e11 8 _ rfl
          have p9 : w11.cell? ⟨W7.heap.size, 9, none⟩ = some (.int .u64 0) := World.news_of_block e11 9 _ rfl
          have p10 : w11.cell? ⟨W7.heap.size, 10, none⟩ = some (.slice none 0 0) := World.news_of_block e11 10 _ rfl
          have hfr : ∀ j, w11.frozen? ⟨W7.heap.size, j, none⟩ = false := fun j => by simp [World.frozen?, e11]
          have hfn : ∀ j, w11.frozen? ⟨W8.heap.size, j, none⟩ = false := fun j => by simp [World.frozen?, en1]
          have y6 := hfr 6
          have y8 := hfr 8
          have y9 := hfr 9
          have y10 := hfr 10
          have z0 := hfn 0
          have z1 := hfn 1
          have z2 := hfn 2
          have hk11 : Keep (fun k => W7.heap.size ≤ k) W8 w11 := HK10.out.trans (Below.keep0 _ hb11)
          have hr78 : ¬ (W7.heap.size = W8.heap.size) := by omega
          have hr87 : ¬ (W8.heap.size = W7.heap.size) := by omega
          have HE11 := Lib.hid e11
          have HEn1 := Lib.hid en1
          have HK11 := Lib.hid hk11
          clear hb11 e11 en1 hfr hfn hk11 hz8 hz10 d10
          go_upto_region 16 with fail
          obtain ⟨W12, HW12⟩ : ∃ y, y = (((w11.setCell ⟨W8.heap.size, 0, none⟩ (.int .u64 c)).setCell ⟨W8.heap.size, 1, none⟩ (.int .u64 s)).setCell ⟨W8.heap.size, 2, none⟩ (.slice ao l cap)).setCell ⟨W7.heap.size, 6, none⟩ (.int .i64 code) := ⟨_, rfl⟩
          rw [← HW12]
          have hk12 : Keep (fun k => W7.heap.size ≤ k) w11 W12 := by rw [HW12]; exact (((Keep.setCell (S := fun k => W7.heap.size ≤ k) (Keep.refl _ _) (p := ⟨W8.heap.size, 0, none⟩) (Or.inl (by show W7.heap.size ≤ W8.heap.size; have := HZ8.out; omega)) _).setCell (p := ⟨W8.heap.size, 1, none⟩) (Or.inl (by show W7.heap.size ≤ W8.heap.size; have := HZ8.out; omega)) _).setCell (p := ⟨W8.heap.size, 2, none⟩) (Or.inl (by show W7.heap.size ≤ W8.heap.size; have := HZ8.out; omega)) _).setCell (p := ⟨W7.heap.size, 6, none⟩) (Or.inl (Nat.le_refl _)) _
          have e12 : W12.heap[W7.heap.size]? = some (.cells (repC m.seq x (.slice so sl sc) code 0 0 0 (.slice none 0 0) m.sh) 41 (0, 0)) := by
            rw [HW12]
            have h0 : ((((w11.setCell ⟨W8.heap.size, 0, none⟩ (.int .u64 c)).setCell ⟨W8.heap.size, 1, none⟩ (.int .u64 s)).setCell ⟨W8.heap.size, 2, none⟩ (.slice ao l cap)).heap[W7.heap.size]? = some (.cells (repC m.seq x (.slice so sl sc) m.code 0 0 0 (.slice none 0 0) m.sh) 41 (0, 0))) :=
              ((((Keep.setCell (S := fun k => k = W8.heap.size) (Keep.refl _ w11) (p := ⟨W8.heap.size, 0, none⟩) (Or.inl rfl) (.int .u64 c)).setCell (p := ⟨W8.heap.size, 1, none⟩) (Or.inl rfl) (.int .u64 s)).setCell (p := ⟨W8.heap.size, 2, none⟩) (Or.inl rfl) (.slice ao l cap)).block W7.heap.size (Array.getElem?_eq_some_iff.1 HE11.out).1 hr78).trans HE11.out
            have h1 := heap_setCell_same _ W7.heap.size 6 _ _ (.int .i64 code) h0
            simp at h1
            exact h1
          have en12 : W12.heap[W8.heap.size]? = some (.cells #[.int .u64 c, .int .u64 s, .slice ao l cap] 66 (0, 0)) := by
            rw [HW12]
            have h1 := heap_setCell_same _ W8.heap.size 0 _ _ (.int .u64 c) HEn1.out
            have h2 := heap_setCell_same _ W8.heap.size 1 _ _ (.int .u64 s) h1
            have h3 := heap_setCell_same _ W8.heap.size 2 _ _ (.slice ao l cap) h2
            simp at h3
            exact ((Keep.setCell (S := fun k => k = W7.heap.size) (Keep.refl _ _) (p := ⟨W7.heap.size, 6, none⟩) (Or.inl rfl) (.int .i64 code)).block W8.heap.size (Array.getElem?_eq_some_iff.1 h3).1 hr87).trans h3
          have hk12' : Keep (fun k => W7.heap.size ≤ k) W8 W12 := HK11.out.trans hk12
          have q0 : W12.cell? ⟨W8.heap.size, 0, none⟩ = some (.int .u64 c) := World.news_of_block en12 0 _ rfl
          have q1 : W12.cell? ⟨W8.heap.size, 1, none⟩ = some (.int .u64 s) := World.news_of_block en12 1 _ rfl
          have q2 : W12.cell? ⟨W8.heap.size, 2, none⟩ = some (.slice ao l cap) := World.news_of_block en12 2 _ rfl
          have p8 : W12.cell? ⟨W7.heap.size, 8, none⟩ = some (.int .u64 0) := World.news_of_block e12 8 _ rfl
          have p9 : W12.cell? ⟨W7.heap.size, 9, none⟩ = some (.int .u64 0) := World.news_of_block e12 9 _ rfl
          have p10 : W12.cell? ⟨W7.heap.size, 10, none⟩ = some (.slice none 0 0) := World.news_of_block e12 10 _ rfl
          have y8 : W12.frozen? ⟨W7.heap.size, 8, none⟩ = false := by simp [World.frozen?, e12]
          have y9 : W12.frozen? ⟨W7.heap.size, 9, none⟩ = false := by simp [World.frozen?, e12]
          have y10 : W12.frozen? ⟨W7.heap.size, 10, none⟩ = false := by simp [World.frozen?, e12]
          have HE12 := Lib.hid e12
          have HK12 := Lib.hid hk12'
          clear hk12 hk12' e12 en12 HW12 p0 p1 p2 p6 y6 z0 z1 z2
          go_region_held3 (fun w' => w'.cell? ⟨W8.heap.size, 0, none⟩ = some (.int .u64 c) ∧ w'.cell? ⟨W8.heap.size, 1, none⟩ = some (.int .u64 s) ∧ w'.cell? ⟨W8.heap.size, 2, none⟩ = some (.slice ao l cap)) (first | go_keep) (first | fail)
          clear q0 q1 q2 p8 p9 p10 y8 y9 y10 d3
          go_wp2_with (first | (refine stopLoad 41 rfl ?_) | fail)
          refine ⟨?_⟩
          obtain ⟨W9, HW9⟩ : ∃ y, y = (((W12.setCell ⟨W7.heap.size, 8, none⟩ (.int .u64 c)).setCell ⟨W7.heap.size, 9, none⟩ (.int .u64 s)).setCell ⟨W7.heap.size, 10, none⟩ (.slice ao l cap)).drew := ⟨_, rfl⟩
          rw [← HW9]
          have hk9 : Keep (fun k => W7.heap.size ≤ k) W8 W9 := by rw [HW9]; exact HK12.out.trans ((((Keep.setCell (S := fun k => W7.heap.size ≤ k) (Keep.refl _ _) (p := ⟨W7.heap.size, 8, none⟩) (Or.inl (Nat.le_refl _)) _).setCell (p := ⟨W7.heap.size, 9, none⟩) (Or.inl (Nat.le_refl _)) _).setCell (p := ⟨W7.heap.size, 10, none⟩) (Or.inl (Nat.le_refl _)) _).drew)
          have e9 : W9.heap[W7.heap.size]? = some (.cells (repC m.seq x (.slice so sl sc) code 0 c s (.slice ao l cap) m.sh) 41 (0, 0)) := by
            rw [HW9]
            have h1 := heap_setCell_same _ W7.heap.size 8 _ _ (.int .u64 c) HE12.out
            have h2 := heap_setCell_same _ W7.heap.size 9 _ _ (.int .u64 s) h1
            have h3 := heap_setCell_same _ W7.heap.size 10 _ _ (.slice ao l cap) h2
            simp at h3
            exact h3
          have ef := (hk9.block (w.heap.size + 1) (by have := HZ8.out; omega) (by omega)).trans HE1.out
          have hk9s := hk9.size
          refine wpList_loadRow rfl 41 (.tmp 8) rfl W7.heap.size _ 41 e9 rfl _ Try.underlying41 rfl (by kernel_rfl) ?_
          refine wpList_store_row rfl 41 (.tmp 4) (.tmp 87) rfl (w.heap.size + 1) (repC m.seq x (.slice so sl sc) code 0 c s (.slice ao l cap) m.sh) (by kernel_rfl) (by kernel_rfl) 41 _ ef (by kernel_rfl) rfl (by kernel_rfl) ?_
          have HEf := Lib.hid ef
          have HK9 := Lib.hid hk9
          clear ef hk9 e9 HW9
          go_wp2_with fail
          refine bodyPost_cell2 rfl (w.heap.size + 1) rfl (.bool true) rfl (setRow_heap _ _ _ _ _ _ HEf.out) Try.underlying41 rfl (by kernel_rfl) rfl ?_
          have hkr : Keep (fun k => k = w.heap.size + 1) W9 (W9.setRow (w.heap.size + 1) (repC m.seq x (.slice so sl sc) code 0 c s (.slice ao l cap) m.sh)) := ⟨rfl, rfl, rfl, by simp, fun k _ hk => setRow_keep W9 _ _ k hk⟩
          have hkz : Keep (fun k => w.heap.size ≤ k) W8 (W9.setRow (w.heap.size + 1) (repC m.seq x (.slice so sl sc) code 0 c s (.slice ao l cap) m.sh)) := (HK9.out.mono (fun k _ e => by omega)).trans (hkr.mono (fun k _ e => by omega))
          exact ⟨_, _, _, _, _, _, _, _, _, _, _, rfl, (fun h => h.elim (fun h => absurd HOp.out h) (fun h => absurd HCd.out h)), HR8.out.keep hkz (fun k hk hd => by have := H.out.lt k hd; omega), Moved.of (((HM8.out.keep.mono (fun k _ h => Or.inl h)).trans (hkz.mono (fun k _ h => Or.inr h)) : Keep (fun k => D k ∨ w.heap.size ≤ k) w _).mono (fun k hk' h => h.resolve_right (by omega)))⟩
        · have t3 : (m.code == 0) = false := by rw [beq_eq_false_iff_ne]; exact hcd
          have HCd := Lib.hid hcd
          clear hcd
          go_wp2_with (first | (refine stopLoad 41 rfl ?_) | fail)
          refine ⟨?_⟩
          obtain ⟨W9, HW9⟩ : ∃ y, y = (W8.setCell ⟨W7.heap.size, 11, none⟩ (.int .i64 m.sh)) := ⟨_, rfl⟩
          rw [← HW9]
          have hk9 : Keep (fun k => k = W7.heap.size) W8 W9 := by rw [HW9]; exact Keep.setCell (S := fun k => k = W7.heap.size) (Keep.refl (fun k => k = W7.heap.size) W8) (p := ⟨W7.heap.size, 11, none⟩) (Or.inl rfl) _
          have e9 : W9.heap[W7.heap.size]? = some (.cells (repC m.seq x (.slice so sl sc) m.code 0 0 0 (.slice none 0 0) m.sh) 41 (0, 0)) := by
            rw [HW9]
            have h1 := heap_setCell_same _ W7.heap.size 11 _ _ (.int .i64 m.sh) HEr.out
            simp at h1
            exact h1
          have ef := (hk9.block (w.heap.size + 1) (by have := HZ8.out; omega) (by omega)).trans HE1.out
          have hk9s := hk9.size
          refine wpList_loadRow rfl 41 (.tmp 8) rfl W7.heap.size _ 41 e9 rfl _ Try.underlying41 rfl (by kernel_rfl) ?_
          refine wpList_store_row rfl 41 (.tmp 4) (.tmp 87) rfl (w.heap.size + 1) (repC m.seq x (.slice so sl sc) m.code 0 0 0 (.slice none 0 0) m.sh) (by kernel_rfl) (by kernel_rfl) 41 _ ef (by kernel_rfl) rfl (by kernel_rfl) ?_
          have HEf := Lib.hid ef
          have HK9 := Lib.hid hk9
          clear ef hk9 e9 HW9
          go_wp2_with fail
          refine bodyPost_cell2 rfl (w.heap.size + 1) rfl (.bool true) rfl (setRow_heap _ _ _ _ _ _ HEf.out) Try.underlying41 rfl (by kernel_rfl) rfl ?_
          have hkr : Keep (fun k => k = w.heap.size + 1) W9 (W9.setRow (w.heap.size + 1) (repC m.seq x (.slice so sl sc) m.code 0 0 0 (.slice none 0 0) m.sh)) := ⟨rfl, rfl, rfl, by simp, fun k _ hk => setRow_keep W9 _ _ k hk⟩
          have hkz : Keep (fun k => w.heap.size ≤ k) W8 (W9.setRow (w.heap.size + 1) (repC m.seq x (.slice so sl sc) m.code 0 0 0 (.slice none 0 0) m.sh)) := (HK9.out.mono (fun k _ e => by omega)).trans (hkr.mono (fun k _ e => by omega))
          exact ⟨_, _, _, _, _, _, _, _, _, _, _, rfl, (fun _ => rfl), HR8.out.keep hkz (fun k hk hd => by have := H.out.lt k hd; omega), Moved.of (((HM8.out.keep.mono (fun k _ h => Or.inl h)).trans (hkz.mono (fun k _ h => Or.inr h)) : Keep (fun k => D k ∨ w.heap.size ≤ k) w _).mono (fun k hk' h => h.resolve_right (by omega)))⟩
      · have t2 : (x.op == 2) = false := by rw [beq_eq_false_iff_ne]; exact h2
        clear h2
        go_wp2_with (first | (refine stopLoad 41 rfl ?_) | fail)
        refine ⟨?_⟩
        obtain ⟨W9, HW9⟩ : ∃ y, y = W8 := ⟨_, rfl⟩
        rw [← HW9]
        have hk9 : Keep (fun k => k = W7.heap.size) W8 W9 := by rw [HW9]; exact Keep.refl (fun k => k = W7.heap.size) W8
        have e9 : W9.heap[W7.heap.size]? = some (.cells (repC m.seq x (.slice so sl sc) m.code 0 0 0 (.slice none 0 0) 0) 41 (0, 0)) := by
          rw [HW9]
          exact HEr.out
        have ef := (hk9.block (w.heap.size + 1) (by have := HZ8.out; omega) (by omega)).trans HE1.out
        have hk9s := hk9.size
        refine wpList_loadRow rfl 41 (.tmp 8) rfl W7.heap.size _ 41 e9 rfl _ Try.underlying41 rfl (by kernel_rfl) ?_
        refine wpList_store_row rfl 41 (.tmp 4) (.tmp 87) rfl (w.heap.size + 1) (repC m.seq x (.slice so sl sc) m.code 0 0 0 (.slice none 0 0) 0) (by kernel_rfl) (by kernel_rfl) 41 _ ef (by kernel_rfl) rfl (by kernel_rfl) ?_
        have HEf := Lib.hid ef
        have HK9 := Lib.hid hk9
        clear ef hk9 e9 HW9
        go_wp2_with fail
        refine bodyPost_cell2 rfl (w.heap.size + 1) rfl (.bool true) rfl (setRow_heap _ _ _ _ _ _ HEf.out) Try.underlying41 rfl (by kernel_rfl) rfl ?_
        have hkr : Keep (fun k => k = w.heap.size + 1) W9 (W9.setRow (w.heap.size + 1) (repC m.seq x (.slice so sl sc) m.code 0 0 0 (.slice none 0 0) 0)) := ⟨rfl, rfl, rfl, by simp, fun k _ hk => setRow_keep W9 _ _ k hk⟩
        have hkz : Keep (fun k => w.heap.size ≤ k) W8 (W9.setRow (w.heap.size + 1) (repC m.seq x (.slice so sl sc) m.code 0 0 0 (.slice none 0 0) 0)) := (HK9.out.mono (fun k _ e => by omega)).trans (hkr.mono (fun k _ e => by omega))
        exact ⟨_, _, _, _, _, _, _, _, _, _, _, rfl, (fun _ => rfl), HR8.out.keep hkz (fun k hk hd => by have := H.out.lt k hd; omega), Moved.of (((HM8.out.keep.mono (fun k _ h => Or.inl h)).trans (hkz.mono (fun k _ h => Or.inr h)) : Keep (fun k => D k ∨ w.heap.size ≤ k) w _).mono (fun k hk' h => h.resolve_right (by omega)))⟩
end Go.Proofs.Ytdmfladjhjpafaa
