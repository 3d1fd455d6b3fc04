/-
  What a cut does to a state: a span behind the others; a shard put anew.
-/
import Derived.Test.YtabanackdjlcmaaCutP
import Derived.Test.YtabanackdjlcmaaPlain2
namespace Go.Proofs.Ytabanackdjlcmaa
open Go.ChangeShapes Go.WideShapes Go.ChangeAt Go.RowKit Go.Maps
set_option maxRecDepth 100000

theorem ShV.row {D : Nat → Prop} {w : World} {b0 bs bt : Nat} {lv lv' : Value} {fv : Option Value} {mx : Option Sh} (h : ShV w D b0 bs bt lv fv mx) (hl : ∀ k, D k → lv'.ownBlock = some k → lv.ownBlock = some k) : ShV w D b0 bs bt lv' fv mx := by
  cases mx with
  | none => exact h
  | some s =>
    obtain ⟨sv, h1, h2, h3⟩ := h
    exact ⟨sv, h1, h2, fun k hk => ⟨(h3 k hk).1, (h3 k hk).2.1, (h3 k hk).2.2.1, (h3 k hk).2.2.2.1, fun e => (h3 k hk).2.2.2.2 (hl k (h3 k hk).1 e)⟩⟩
/-- A span stands behind the others, and the count is set. -/
theorem FoldR.pushed {D : Nat → Prop} {w w1 : World} {b0 bs bt N : Nat} {lv : Value} {F : FS} (h : FoldR w D b0 bs bt N lv F) {x : Sp} {g cap : Nat}
    (hown : w1.ownsRow 0 60 5 (.slice (some ⟨g, 0, none⟩) (F.l.length + 1) cap) (F.l.length + 1) (spC F.l ++ [.int .u64 x.pos, .int .i64 x.shard, .int .i64 x.seg, .int .u64 x.off, .int .u64 x.many]))
    (hg : w.grownBy w1 lv.ownBlock) (hgor : lv.ownBlock = some g ∨ w.heap.size ≤ g) (hglt : g < w1.heap.size) {n : Int} (hn0 : F.n ≤ n) (hn : n ≤ 18446744073709551615) :
    FoldR ((w1.setCell ⟨b0, 1, none⟩ (.slice (some ⟨g, 0, none⟩) (F.l.length + 1) cap)).setCell ⟨b0, 2, none⟩ (.int .u64 n)) (fun k => D k ∨ k = g) b0 bs bt N (.slice (some ⟨g, 0, none⟩) (F.l.length + 1) cap) { F with l := F.l ++ [x], n := n } ∧
      Keep D w ((w1.setCell ⟨b0, 1, none⟩ (.slice (some ⟨g, 0, none⟩) (F.l.length + 1) cap)).setCell ⟨b0, 2, none⟩ (.int .u64 n)) := by
  have hsl : w1.ownsRow 0 60 5 (.slice (some ⟨g, 0, none⟩) (F.l.length + 1) cap) (F.l ++ [x]).length (spC (F.l ++ [x])) := by
    rw [spC_app, List.length_append]; exact hown
  obtain ⟨h1, h2, h3, h4, h5, h6, h7, h8, ⟨f, hf, hv, hvx⟩, ⟨t, ht, htv⟩, h11, h12⟩ := h
  have hgb : g ≠ b0 ∧ g ≠ bs ∧ g ≠ bt := by
    rcases hgor with e | e
    · exact ⟨(h6 g e).2.1, (h6 g e).2.2.1, (h6 g e).2.2.2⟩
    · have a0 := h2 _ h3; have a1 := h2 _ h4; have a2 := h2 _ h5
      exact ⟨by omega, by omega, by omega⟩
  have hk1 : Keep (fun k => k = b0 ∨ lv.ownBlock = some k) w w1 := Keep.grown hg (fun k hk => Or.inr hk)
  have hk2 := (hk1.setCell (p := ⟨b0, 1, none⟩) (Or.inl (Or.inl rfl)) (.slice (some ⟨g, 0, none⟩) (F.l.length + 1) cap)).setCell (p := ⟨b0, 2, none⟩) (Or.inl (Or.inl rfl)) (.int .u64 n)
  have hk3 := ((Keep.refl (fun k => k = b0) w1).setCell (p := ⟨b0, 1, none⟩) (Or.inl rfl) (.slice (some ⟨g, 0, none⟩) (F.l.length + 1) cap)).setCell (p := ⟨b0, 2, none⟩) (Or.inl rfl) (.int .u64 n)
  have hlb : lv.ownBlock ≠ some b0 := fun e => (h6 _ e).2.1 rfl
  have hc1 : w1.heap[b0]? = some (.cells #[.map (some bs), lv, .int .u64 F.n, .int .u64 F.low, .map (some bt)] 89 (0, 0)) := (hg.block b0 (h2 _ h3) (fun e => hlb e.symm)).trans h1
  have hs1 := heap_setCell_same w1 b0 1 _ _ (.slice (some ⟨g, 0, none⟩) (F.l.length + 1) cap) hc1
  have hs2 := heap_setCell_same _ b0 2 _ _ (.int .u64 n) hs1
  refine ⟨⟨by simpa using hs2, ?_, Or.inl h3, Or.inl h4, Or.inl h5, fun k hk => ?_, h7, own_keep hsl (fun b hb => ?_), ⟨f, hf.keep hk2 ?_, (fun a ha => ?_), hvx⟩, ⟨t, ht.keep hk2 ?_, htv⟩, ⟨by have := h11.1; show (0 : Int) ≤ n; omega, hn, h11.2.2.1, by have := h11.2.2.2; show F.low ≤ n; omega⟩, h12⟩, hk2.mono (fun k hk hs => ?_)⟩
  · intro k hk
    have : w1.heap.size ≤ ((w1.setCell ⟨b0, 1, none⟩ (.slice (some ⟨g, 0, none⟩) (F.l.length + 1) cap)).setCell ⟨b0, 2, none⟩ (.int .u64 n)).heap.size := hk3.size
    rcases hk with hk | rfl
    · have := h2 k hk; have := hg.size; omega
    · omega
  · cases hk
    exact ⟨Or.inr rfl, hgb⟩
  · cases hb
    exact hk3.block g hglt hgb.1
  · rintro (e | e)
    · exact h7.1 e
    · exact (h6 _ e).2.2.1 rfl
  · refine ((hv a ha).keep hk2 (fun k hs _ => ?_) (fun k hk => hk)).row (lv' := .slice (some ⟨g, 0, none⟩) (F.l.length + 1) cap) (fun k hd e => ?_) |>.keep (Keep.refl (fun _ => False) _) (fun k hk => hk.elim) (fun k hk => Or.inl hk)
    · rcases hs with e | e
      · exact Or.inl e
      · exact Or.inr (Or.inr (Or.inr e))
    · cases e
      rcases hgor with e | e
      · exact e
      · have := h2 g hd; omega
  · rintro (e | e)
    · exact h7.2.1 e
    · exact (h6 _ e).2.2.2 rfl
  · rcases hs with rfl | e
    · exact h3
    · exact (h6 k e).1
/-- A shard is put. -/
theorem FoldR.store {D : Nat → Prop} {w w1 : World} {b0 bs bt N : Nat} {lv sv : Value} {F : FS} (h : FoldR w D b0 bs bt N lv F) {id : Int} (hi : IdOk id) {s : Sh} (hb1 : Below w.heap.size w w1) (hN : N < 1000000000) (hsv : SlR w sv (u64s s.lens))
    (hD : ∀ k, sv.ownBlock = some k → D k ∧ k ≠ b0 ∧ k ≠ bs ∧ k ≠ bt ∧ lv.ownBlock ≠ some k) (hsm : s.lens.length ≤ 4 ∧ 1 ≤ s.segs ∧ s.segs ≤ 4 ∧ s.id = id ∧ U64 s.lens) :
    ∃ w2, (Instr.mapUpdate 86 (.map (some bs)) (.int .i64 id) (.agg #[.int .i64 s.id, .int .i64 s.segs, sv, .bool s.fin])).run Try.prog w1 = .ok () w2 ∧ FoldR w2 D b0 bs bt (N + 1) lv (putS F id s) ∧ Keep (fun k => k = bs) w w2 ∧ w1.grownBy w2 (some bs) := by
  obtain ⟨f, hf, hvals, hvx⟩ := h.sh
  obtain ⟨w2, g1, g2, g3⟩ := (hf.same (hb1.block bs hf.lt)).store idKeyed Try.underlying86 (by unfold maxLen; omega) (val := .agg #[.int .i64 s.id, .int .i64 s.segs, sv, .bool s.fin]) (id_key hi) (by trivial)
  have h1 := h.below hb1 (Nat.le_refl _)
  have hk2 : Keep (fun k => k = bs) w1 w2 := Keep.grown g3 (fun k hk => by cases hk; rfl)
  refine ⟨w2, g1, h1.putSh hi (s := s) (sv := sv) g3 (fun a ha => (hvals a ha).keep (Below.keep0 (fun _ => False) hb1) (fun k hk => hk.elim) (fun _ h => h)) hvx g2 ((hsv.below hb1 (Nat.le_refl _)).keep hk2 (fun k hk e => (hD k hk).2.2.1 e)) hD hsm, ?_, g3⟩
  exact (Below.keep0 (fun k => k = bs) hb1).trans hk2

theorem lenS_nil (F : FS) : lenS F [] = F.sh := by funext a; simp [lenS]
theorem rows_ids {rs : Rw} (h : rowsB rs = true) {i j : Nat} {r q : Int × List Int} (hij : i < j) (hi : rs[i]? = some r) (hj : rs[j]? = some q) : r.1 < q.1 := by
  have step : ∀ (k : Nat) (r q : Int × List Int), rs[k]? = some r → rs[k + 1]? = some q → r.1 < q.1 := by
    intro k r q hr hq
    unfold rowsB at h
    rw [List.all_eq_true] at h
    have hl := (List.getElem?_eq_some_iff.1 hq).1
    have := h (k + 1) (by simpa using hl)
    unfold rowOkAt at this
    rw [hq] at this
    simp only [Bool.and_eq_true, decide_eq_true_eq, Bool.or_eq_true, beq_iff_eq] at this
    have h2 := this.1.1.2
    rcases h2 with h2 | h2
    · omega
    · rw [show k + 1 - 1 = k by omega, List.getD_eq_getElem?_getD, hr] at h2
      simpa using h2
  obtain ⟨d, rfl⟩ : ∃ d, j = i + 1 + d := ⟨j - i - 1, by omega⟩
  clear hij
  induction d generalizing q with
  | zero => exact step i r q hi hj
  | succ d ih =>
    have hl := (List.getElem?_eq_some_iff.1 hj).1
    obtain ⟨m, hm⟩ : ∃ m, rs[i + 1 + d]? = some m := ⟨_, List.getElem?_eq_getElem (by omega)⟩
    have h1 := ih hm
    have h2 := step (i + 1 + d) m q hm hj
    omega
theorem lenS_snoc {F : FS} {rs : Rw} {id : Int} {xs : List Int} {s : Sh} (hs : F.sh id = some s) (hn : ∀ r ∈ rs, r.1 ≠ id) : lenS F (rs ++ [(id, xs)]) = fun a => if a = id then some { s with lens := cutI xs } else lenS F rs a := by
  funext a
  unfold lenS
  rw [List.find?_append]
  by_cases e : a = id
  · subst e
    have : rs.find? (fun r => r.1 == a) = none := by
      rw [List.find?_eq_none]; intro r hr; simpa using hn r hr
    rw [this]
    simp [hs]
  · rw [if_neg e]
    cases hf : rs.find? (fun r => r.1 == a) with
    | some r => simp
    | none =>
      simp [Ne.symm e]
/-- What a cut leaves, and tells. -/
def CutPost (D : Nat → Prop) (w : World) (b0 bs bt N : Nat) (F : FS) (rs : Rw) (e : Ending) (w' : World) : Prop :=
  e = .returned (.int .i64 (cutE F rs)) ∧ (cutE F rs ≠ 0 → Below w.heap.size w w') ∧ (cutE F rs = 0 → ∃ D' lv', FoldR w' D' b0 bs bt (N + rs.length) lv' (cutF F rs) ∧ Keep D w w' ∧ (∀ k, D k → D' k) ∧ (∀ k, D' k → D k ∨ w.heap.size ≤ k))
theorem CutPost.err {D : Nat → Prop} {w w' : World} {b0 bs bt N : Nat} {F : FS} {rs : Rw} {x : Int} (he : cutE F rs = x) (hx : x ≠ 0) (hb : Below w.heap.size w w') : CutPost D w b0 bs bt N F rs (.returned (.int .i64 x)) w' :=
  ⟨by rw [he], fun _ => hb, fun h => absurd (he ▸ h) hx⟩
theorem below3 {B : Nat} {w wo w3 : World} {o : Obj} (h : Below B w wo) (hB : B ≤ wo.heap.size) (h3 : Below (wo.alloc o).heap.size (wo.alloc o) w3) (o2 : Obj) : Below B w (w3.alloc o2) := by
  have h1 := h.alloc hB o
  have h2 := h1.trans (h3.mono (by simp; omega))
  exact h2.alloc (by have := h3.size; simp at this; omega) o2
/-- The state behind the first j new spans. -/
def midF (F : FS) (L : List Sp) (j : Nat) : FS := { F with l := F.l ++ posSp F.n (L.take j), n := F.n + sumI (manyOf (L.take j)) }
theorem midF_zero (F : FS) (L : List Sp) : midF F L 0 = F := by simp [midF, posSp, manyOf, sumI]
theorem midF_succ {F : FS} {L : List Sp} {j : Nat} {x : Sp} (hx : L[j]? = some x) : midF F L (j + 1) = { midF F L j with l := (midF F L j).l ++ [{ x with pos := (midF F L j).n }], n := (midF F L j).n + x.many } := by
  have hl := (List.getElem?_eq_some_iff.1 hx)
  obtain ⟨h1, h2⟩ := hl
  unfold midF
  simp only [List.take_succ_eq_append_getElem h1, h2, posSp_app]
  simp [posSp, manyOf, sumI, List.sum_append, Int.add_assoc]
theorem sumI_take_two {l : List Int} (h : ∀ x ∈ l, 0 ≤ x) (j : Nat) : 0 ≤ sumI (l.take j) ∧ sumI (l.take j) ≤ sumI l := by
  induction l generalizing j with
  | nil => simp [sumI]
  | cons a r ih =>
    have h0 := h a (by simp)
    have h1 := fun j => ih (fun x hx => h x (by simp [hx])) j
    cases j with
    | zero =>
      have := h1 r.length
      rw [List.take_length] at this
      simp only [List.take_zero, sumI, List.sum_nil, List.sum_cons] at *
      omega
    | succ j =>
      have := h1 j
      simp only [List.take_succ_cons, sumI, List.sum_cons] at *
      omega
theorem midF_le {F : FS} {L : List Sp} (h : ∀ s ∈ L, 0 ≤ s.many ∧ s.many ≤ 18446744073709551615) (hs : sumI (F.n :: manyOf L) ≤ 18446744073709551615) (j : Nat) : F.n ≤ (midF F L j).n ∧ (midF F L j).n ≤ 18446744073709551615 := by
  have h1 := sumI_take_two (l := manyOf L) (fun x hx => by unfold manyOf at hx; obtain ⟨s, hs, rfl⟩ := List.mem_map.1 hx; exact (h s hs).1) j
  have e : manyOf (L.take j) = (manyOf L).take j := by simp [manyOf, List.map_take]
  have e2 : sumI (F.n :: manyOf L) = F.n + sumI (manyOf L) := by simp [sumI]
  show F.n ≤ F.n + sumI (manyOf (L.take j)) ∧ F.n + sumI (manyOf (L.take j)) ≤ _
  rw [e]
  omega
/-- What the second loop carries. -/
structure CutB (w : World) (D : Nat → Prop) (b0 bs bt N : Nat) (G : FS) (L : List Sp) (lq : Value) (wr : World) (D' : Nat → Prop) (lv' : Value) : Prop where
  fold : FoldR wr D' b0 bs bt N lv' G
  keep : Keep D w wr
  sub : ∀ k, D k → D' k
  new : ∀ k, D' k → D k ∨ w.heap.size ≤ k
  spans : wr.ownsRow w.heap.size 60 5 lq L.length (spC L)
  off : ∀ k, lq.ownBlock = some k → ¬ D' k
theorem Keep.chain {S T : Nat → Prop} {a b c : World} (h : Keep S a b) (k : Keep T b c) (hT : ∀ x, x < a.heap.size → T x → S x) : Keep S a c :=
  ⟨k.os.trans h.os, k.tape.trans h.tape, k.output.trans h.output, Nat.le_trans h.size k.size, fun i hi hs => (k.block i (Nat.lt_of_lt_of_le hi h.size) (fun ht => hs (hT i hi ht))).trans (h.block i hi hs)⟩
theorem CutB.next {w : World} {D : Nat → Prop} {b0 bs bt N : Nat} {G : FS} {L : List Sp} {lq : Value} {wr Wb w7 : World} {D' : Nat → Prop} {lv' : Value} (h : CutB w D b0 bs bt N G L lq wr D' lv') (hb : Below wr.heap.size wr Wb) {x : Sp} {g cap : Nat}
    (hown : w7.ownsRow 0 60 5 (.slice (some ⟨g, 0, none⟩) (G.l.length + 1) cap) (G.l.length + 1) (spC G.l ++ [.int .u64 x.pos, .int .i64 x.shard, .int .i64 x.seg, .int .u64 x.off, .int .u64 x.many]))
    (hg : Wb.grownBy w7 lv'.ownBlock) (hgor : lv'.ownBlock = some g ∨ Wb.heap.size ≤ g) (hlt : g < w7.heap.size) {n : Int} (hn0 : G.n ≤ n) (hn : n ≤ 18446744073709551615) :
    CutB w D b0 bs bt N { G with l := G.l ++ [x], n := n } L lq ((w7.setCell ⟨b0, 1, none⟩ (.slice (some ⟨g, 0, none⟩) (G.l.length + 1) cap)).setCell ⟨b0, 2, none⟩ (.int .u64 n)) (fun k => D' k ∨ k = g) (.slice (some ⟨g, 0, none⟩) (G.l.length + 1) cap) := by
  have hF := h.fold.below hb (Nat.le_refl _)
  obtain ⟨h1, h2⟩ := hF.pushed hown hg hgor hlt hn0 hn
  have hk : Keep D' wr ((w7.setCell ⟨b0, 1, none⟩ (.slice (some ⟨g, 0, none⟩) (G.l.length + 1) cap)).setCell ⟨b0, 2, none⟩ (.int .u64 n)) := (Below.keep0 D' hb).trans h2
  refine ⟨h1, h.keep.chain hk (fun k hk hd => ?_), fun k hk => Or.inl (h.sub k hk), fun k hk => ?_, own_keepS hk h.spans (fun k hq => h.off k hq), fun k hq hd => ?_⟩
  · rcases h.new k hd with e | e
    · exact e
    · omega
  · rcases hk with e | rfl
    · exact h.new k e
    · have h3 := h.keep.size
      have h4 := hb.size
      rcases hgor with e | e
      · exact h.new k (h.fold.dl k e).1
      · exact Or.inr (by omega)
  · rcases hd with e | rfl
    · exact h.off k hq e
    · have h3 := (h.spans.lt k hq).2
      have h4 := hb.size
      rcases hgor with e | e
      · exact h.off k hq (h.fold.dl k e).1
      · omega
theorem midF_len (F : FS) (L : List Sp) (j : Nat) : (midF F L j).l.length ≤ F.l.length + L.length := by
  show (F.l ++ posSp F.n (L.take j)).length ≤ _
  rw [List.length_append, posSp_len, List.length_take]
  omega
theorem spanCells {wr W' : World} {n sh sg of mn : Int} {b0 : Nat} {lv : Value} {m : Int} (hb : Below (wr.alloc (.cells #[.int .u64 n, .int .i64 sh, .int .i64 sg, .int .u64 of, .int .u64 mn] 60)).heap.size (wr.alloc (.cells #[.int .u64 n, .int .i64 sh, .int .i64 sg, .int .u64 of, .int .u64 mn] 60)) W')
    (hb0 : b0 < wr.heap.size) (c1 : wr.cell? ⟨b0, 1, none⟩ = some lv) (c2 : wr.cell? ⟨b0, 2, none⟩ = some (.int .u64 m)) :
    (W'.cell? ⟨wr.heap.size, 0, none⟩ = some (.int .u64 n) ∧ W'.cell? ⟨wr.heap.size, 1, none⟩ = some (.int .i64 sh) ∧ W'.cell? ⟨wr.heap.size, 2, none⟩ = some (.int .i64 sg) ∧ W'.cell? ⟨wr.heap.size, 3, none⟩ = some (.int .u64 of) ∧ W'.cell? ⟨wr.heap.size, 4, none⟩ = some (.int .u64 mn)) ∧ (W'.cell? ⟨b0, 1, none⟩ = some lv ∧ W'.cell? ⟨b0, 2, none⟩ = some (.int .u64 m)) := by
  have hk := (hb.block wr.heap.size (by simp)).trans (heap_alloc_new wr (.cells #[.int .u64 n, .int .i64 sh, .int .i64 sg, .int .u64 of, .int .u64 mn] 60))
  have hbb := ((Below.refl wr.heap.size wr).alloc (Nat.le_refl _) (.cells #[.int .u64 n, .int .i64 sh, .int .i64 sg, .int .u64 of, .int .u64 mn] 60)).trans (hb.mono (by simp))
  exact ⟨⟨World.news_of_block hk 0 _ rfl, World.news_of_block hk 1 _ rfl, World.news_of_block hk 2 _ rfl, World.news_of_block hk 3 _ rfl, World.news_of_block hk 4 _ rfl⟩, (hbb.cell (p := ⟨b0, 1, none⟩) hb0).trans c1, (hbb.cell (p := ⟨b0, 2, none⟩) hb0).trans c2⟩
theorem keepG {w w' : World} {row : Option Nat} {B : Nat} {v0 v1 v2 v3 v4 : Value} (h : w.cell? ⟨B, 0, none⟩ = some v0 ∧ w.cell? ⟨B, 1, none⟩ = some v1 ∧ w.cell? ⟨B, 2, none⟩ = some v2 ∧ w.cell? ⟨B, 3, none⟩ = some v3 ∧ w.cell? ⟨B, 4, none⟩ = some v4) (hg : w.grownBy w' row) (hn : row ≠ some B) :
    w'.cell? ⟨B, 0, none⟩ = some v0 ∧ w'.cell? ⟨B, 1, none⟩ = some v1 ∧ w'.cell? ⟨B, 2, none⟩ = some v2 ∧ w'.cell? ⟨B, 3, none⟩ = some v3 ∧ w'.cell? ⟨B, 4, none⟩ = some v4 :=
  ⟨hg.cell h.1 (fun e => hn e.symm), hg.cell h.2.1 (fun e => hn e.symm), hg.cell h.2.2.1 (fun e => hn e.symm), hg.cell h.2.2.2.1 (fun e => hn e.symm), hg.cell h.2.2.2.2 (fun e => hn e.symm)⟩
theorem keepG2 {w w' : World} {row : Option Nat} {B : Nat} {v1 v2 : Value} (h : w.cell? ⟨B, 1, none⟩ = some v1 ∧ w.cell? ⟨B, 2, none⟩ = some v2) (hg : w.grownBy w' row) (hn : row ≠ some B) : w'.cell? ⟨B, 1, none⟩ = some v1 ∧ w'.cell? ⟨B, 2, none⟩ = some v2 :=
  ⟨hg.cell h.1 (fun e => hn e.symm), hg.cell h.2 (fun e => hn e.symm)⟩
theorem keepS0 {w : World} {B b o : Nat} {v v0 v1 v2 v3 v4 : Value} (h : w.cell? ⟨B, 0, none⟩ = some v0 ∧ w.cell? ⟨B, 1, none⟩ = some v1 ∧ w.cell? ⟨B, 2, none⟩ = some v2 ∧ w.cell? ⟨B, 3, none⟩ = some v3 ∧ w.cell? ⟨B, 4, none⟩ = some v4) (hn : B ≠ b) :
    (w.setCell ⟨b, o, none⟩ v).cell? ⟨B, 0, none⟩ = some v0 ∧ (w.setCell ⟨b, o, none⟩ v).cell? ⟨B, 1, none⟩ = some v1 ∧ (w.setCell ⟨b, o, none⟩ v).cell? ⟨B, 2, none⟩ = some v2 ∧ (w.setCell ⟨b, o, none⟩ v).cell? ⟨B, 3, none⟩ = some v3 ∧ (w.setCell ⟨b, o, none⟩ v).cell? ⟨B, 4, none⟩ = some v4 := by
  have hk := (Keep.refl (fun k => k = b) w).setCell (p := ⟨b, o, none⟩) (Or.inl rfl) v
  exact ⟨hk.cell h.1 hn, hk.cell h.2.1 hn, hk.cell h.2.2.1 hn, hk.cell h.2.2.2.1 hn, hk.cell h.2.2.2.2 hn⟩
theorem lenS_at {F : FS} {rs : Rw} {id : Int} (hn : ∀ r ∈ rs, r.1 ≠ id) : lenS F rs id = F.sh id := by
  unfold lenS
  have : rs.find? (fun r => r.1 == id) = none := by
    rw [List.find?_eq_none]; intro r hr; simpa using hn r hr
  rw [this]
theorem rows_ne {rs : Rw} (h : rowsB rs = true) {k : Nat} {r : Int × List Int} (hk : rs[k]? = some r) : ∀ q ∈ rs.take k, q.1 ≠ r.1 := by
  intro q hq
  obtain ⟨i, hi, rfl⟩ := List.getElem_of_mem hq
  have hi' : i < k := by simp at hi; omega
  have h1 := rows_ids h hi' (r := (rs.take k)[i]) (by rw [List.getElem?_eq_getElem (by have := (List.getElem?_eq_some_iff.1 hk).1; omega)]; simp) hk
  omega
/-- What the third loop carries. -/
structure CutC (w : World) (D : Nat → Prop) (b0 bs bt N : Nat) (F F2 : FS) (rs : Rw) (j : Nat) (wr : World) (D' : Nat → Prop) (lv' : Value) : Prop where
  fold : FoldR wr D' b0 bs bt (N + j) lv' { F2 with sh := lenS F (rs.take j) }
  keep : Keep D w wr
  sub : ∀ k, D k → D' k
  new : ∀ k, D' k → D k ∨ w.heap.size ≤ k
theorem CutC.next {w : World} {D : Nat → Prop} {b0 bs bt N : Nat} {F F2 : FS} {rs : Rw} {j : Nat} {wr : World} {D' : Nat → Prop} {lv' : Value} (h : CutC w D b0 bs bt N F F2 rs j wr D' lv') (hok : rowsB rs = true) {id : Int} {xs : List Int} (hj : rs[j]? = some (id, xs)) {s : Sh} (hs : F.sh id = some s) (hi : IdOk id)
    (hsm : s.lens.length ≤ 4 ∧ 1 ≤ s.segs ∧ s.segs ≤ 4 ∧ s.id = id ∧ U64 s.lens) (hx4 : xs.length ≤ 4) (hxu : U64 xs) {w5 w5d : World} (hb5 : Below wr.heap.size wr w5) (hd5 : Below w5.heap.size w5 w5d) (hN : N + j < 1000000000) {vm : Value} (hown : w5.ownsRow wr.heap.size 39 1 vm (cutI xs).length (u64s (cutI xs))) :
    ∃ w6, (Instr.mapUpdate 86 (.map (some bs)) (.int .i64 id) (.agg #[.int .i64 s.id, .int .i64 s.segs, vm, .bool s.fin])).run Try.prog w5d = .ok () w6 ∧ CutC w D b0 bs bt N F F2 rs (j + 1) w6 (fun k => D' k ∨ vm.ownBlock = some k) lv' := by
  have hR := (h.fold.below hb5 (Nat.le_refl _)).wider (D' := fun k => D' k ∨ vm.ownBlock = some k) (fun k hk => Or.inl hk) (fun k hk => by
    rcases hk with hk | hk
    · have := h.fold.lt k hk; have := hb5.size; omega
    · exact (hown.lt k hk).2)
  have hap : ∀ k, vm.ownBlock = some k → (D' k ∨ vm.ownBlock = some k) ∧ k ≠ b0 ∧ k ≠ bs ∧ k ≠ bt ∧ lv'.ownBlock ≠ some k := fun k hk => by
    have h1 := (hown.lt k hk).1
    have a0 := h.fold.lt _ h.fold.d0
    have a1 := h.fold.lt _ h.fold.ds
    have a2 := h.fold.lt _ h.fold.dt
    exact ⟨Or.inr hk, by omega, by omega, by omega, fun e => by have := h.fold.lt _ (h.fold.dl k e).1; omega⟩
  obtain ⟨w6, g1, g2, g3, g4⟩ := hR.store hi (s := { s with lens := cutI xs }) (sv := vm) hd5 hN (SlR.of_own hown) hap ⟨Nat.le_trans (cutI_len xs) hx4, hsm.2.1, hsm.2.2.1, hsm.2.2.2.1, fun x hx => hxu x (cutI_mem hx)⟩
  refine ⟨w6, g1, ?_, ?_, fun k hk => Or.inl (h.sub k hk), fun k hk => ?_⟩
  · have e : ({ F2 with sh := lenS F (rs.take (j + 1)) } : FS) = putS { F2 with sh := lenS F (rs.take j) } id { s with lens := cutI xs } := by
      have hl := (List.getElem?_eq_some_iff.1 hj)
      obtain ⟨h1, h2⟩ := hl
      rw [List.take_succ_eq_append_getElem h1, h2, lenS_snoc hs (rows_ne hok hj)]
      rfl
    rw [e]
    exact g2
  · have hk5 := (Below.keep0 (fun _ => False) hb5)
    refine (h.keep.chain hk5 (fun x hx hf => hf.elim)).chain g3 (fun k hk e => ?_)
    subst e
    rcases h.new k h.fold.ds with e | e
    · exact e
    · omega
  · rcases hk with e | e
    · exact h.new k e
    · have := (hown.lt k e).1; have := h.keep.size; exact Or.inr (by omega)
end Go.Proofs.Ytabanackdjlcmaa
