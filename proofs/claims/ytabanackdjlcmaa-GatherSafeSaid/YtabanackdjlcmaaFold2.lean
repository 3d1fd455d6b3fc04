/-
  Contracts of package fold: live, add, trim.
-/
import Derived.Test.YtabanackdjlcmaaFold
namespace Go.Proofs.Ytabanackdjlcmaa
open Go.ChangeShapes Go.WideShapes Go.ChangeAt Go.RowKit Go.Maps
set_option maxRecDepth 100000

def Nat64 (a : Int) : Prop := 0 ≤ a ∧ a ≤ 18446744073709551615
theorem wk_of {a b : Int} (ha : Nat64 a) (hb : Nat64 b) : keyOf Try.prog 91 (.agg #[.int .u64 a, .int .u64 b]) = some (wk a b) := by
  have wa : (Lit.int .u64 a).wf = true := by obtain ⟨h1, h2⟩ := ha; simp [Lit.wf, IntKind.min, IntKind.max, IntKind.signed, IntKind.bits]; omega
  have wb : (Lit.int .u64 b).wf = true := by obtain ⟨h1, h2⟩ := hb; simp [Lit.wf, IntKind.min, IntKind.max, IntKind.signed, IntKind.bits]; omega
  have hkt : Program.keyType Try.prog 91 = true := by kernel_rfl
  have hc : Program.cellsOf Try.prog 39 = 1 := by kernel_rfl
  have hc2 : Program.cellsOf Try.prog 91 = 2 := by kernel_rfl
  obtain ⟨m, hm⟩ : ∃ m, Try.prog.types.size = m + 1 := ⟨Try.prog.types.size - 1, by kernel_rfl⟩
  unfold keyOf
  simp only [Try.underlying91]
  rw [if_pos (by simp [hkt, Value.formed, Try.underlying91, hc2]), hm]
  unfold Program.keyLits
  simp only [Try.underlying91, Value.cells]
  rw [if_pos (by simp [hc2])]
  simp [List.mapM_cons, List.mapM_nil, hc, Program.keyLits, Try.underlying39, wa, wb, wk]
theorem wk_inj {a b c d : Int} (ha : Nat64 a) (hb : Nat64 b) (hc : Nat64 c) (hd : Nat64 d) (h : wk a b = wk c d) : a = c ∧ b = d := by
  have h1 := wk_of ha hb
  rw [h] at h1
  have := whoKeyed.inj h1 (wk_of hc hd)
  simpa using this

/-- What 'live' tells. -/
def liveE (F : FS) (id : Int) : Int := match F.sh id with | none => 30 | some s => if s.fin = true then 34 else 0
/-- A shard's value, as it lies in the map. -/
def zeroSh : Value := .agg #[.int .i64 0, .int .i64 0, .slice none 0 0, .bool false]
def shLook (fv : Option Value) : Value := fv.getD zeroSh
theorem shlook_two {w : World} {bs N : Nat} {f : Lit → Option Value} {id : Int} (h : MapR w Try.prog 3 bs N f) (hi : IdOk id) :
    (Instr.lookup 86 (.map (some bs)) (.int .i64 id) true).run Try.prog w = .ok (.tuple #[shLook (f (.int .i64 id)), .bool (f (.int .i64 id)).isSome]) w :=
  h.look_ok idKeyed Try.underlying86 (zeroShard w) (id_key hi)
theorem shlook_one {w : World} {bs N : Nat} {f : Lit → Option Value} {id : Int} (h : MapR w Try.prog 3 bs N f) (hi : IdOk id) :
    (Instr.lookup 86 (.map (some bs)) (.int .i64 id) false).run Try.prog w = .ok (shLook (f (.int .i64 id))) w :=
  h.look idKeyed Try.underlying86 (zeroShard w) (id_key hi)

set_option maxHeartbeats 1000000 in
theorem live_none {D : Nat → Prop} {w : World} {b0 bs bt N : Nat} {lv : Value} {F : FS} (h : FoldR w D b0 bs bt N lv F) {id : Int} (hi : IdOk id) (hs : F.sh id = none) :
    Calls Try.prog 70 #[.pointer (some ⟨b0, 0, none⟩), .int .i64 id] w fun e w' => e = .returned (.tuple #[zeroSh, .int .i64 30]) ∧ Below w.heap.size w w' := by
  obtain ⟨c0, _⟩ := h.cell
  obtain ⟨f, hf, hv, _⟩ := h.sh
  have hval := hv id hi
  rw [hs] at hval
  simp only [ShV] at hval
  have hb := ((Below.refl w.heap.size w).alloc (Nat.le_refl _) (.cells #[.int .i64 0, .int .i64 0, .slice none 0 0, .bool false] 35))
  have hl := shlook_two (hf.same (hb.block bs hf.lt)) hi
  rw [hval] at hl
  simp only [shLook, Option.getD_none, Option.isSome_none, zeroSh] at hl
  have hc0 := (hb.cell (h.lt _ h.d0)).trans c0
  unfold zeroSh
  clear hv hval hs
  go_enter Try.func70, Try.ntmps70
  go_wp2
  go_returns
  exact ⟨rfl, ((Below.refl _ _).alloc (Nat.le_refl _) _).alloc (by simp) _⟩
theorem FoldR.shAt {D : Nat → Prop} {w : World} {b0 bs bt N : Nat} {lv : Value} {F : FS} (h : FoldR w D b0 bs bt N lv F) {id : Int} (hi : IdOk id) {s : Sh} (hs : F.sh id = some s) :
    ∃ f so sc, MapR w Try.prog 3 bs N f ∧ f (.int .i64 id) = some (.agg #[.int .i64 s.id, .int .i64 s.segs, .slice so s.lens.length sc, .bool s.fin]) ∧ SlR w (.slice so s.lens.length sc) (u64s s.lens) ∧ s.lens.length ≤ sc ∧ sc ≤ 9223372036854775807 ∧
      ∀ k, (Value.slice so s.lens.length sc).ownBlock = some k → D k ∧ k ≠ b0 ∧ k ≠ bs ∧ k ≠ bt ∧ lv.ownBlock ≠ some k := by
  obtain ⟨f, hf, hv, _⟩ := h.sh
  have hval := hv id hi
  rw [hs] at hval
  obtain ⟨sv, h1, h2, h3⟩ := hval
  obtain ⟨so, sc, e, g1, g2⟩ := h2.form
  simp only [List.length_map] at e g1
  subst e
  exact ⟨f, so, sc, hf, h1, h2, g1, g2, h3⟩
set_option maxHeartbeats 1000000 in
theorem live_sealed {D : Nat → Prop} {w : World} {b0 bs bt N : Nat} {lv : Value} {F : FS} (h : FoldR w D b0 bs bt N lv F) {id : Int} (hi : IdOk id) {s : Sh} (hs : F.sh id = some s) (hfin : s.fin = true) :
    Calls Try.prog 70 #[.pointer (some ⟨b0, 0, none⟩), .int .i64 id] w fun e w' => e = .returned (.tuple #[zeroSh, .int .i64 34]) ∧ Below w.heap.size w w' := by
  obtain ⟨c0, _⟩ := h.cell
  obtain ⟨f, so, sc, hf, hval, hsl, hs1, hs2, ho⟩ := h.shAt hi hs
  have hb := ((Below.refl w.heap.size w).alloc (Nat.le_refl _) (.cells #[.int .i64 0, .int .i64 0, .slice none 0 0, .bool false] 35))
  have hl := shlook_two (hf.same (hb.block bs hf.lt)) hi
  rw [hval] at hl
  simp only [shLook, Option.getD_some, Option.isSome_some] at hl
  rw [hfin] at hl
  have hc0 := (hb.cell (h.lt _ h.d0)).trans c0
  unfold zeroSh
  clear hval hs hsl ho h
  go_enter Try.func70, Try.ntmps70
  go_wp2
  go_returns
  exact ⟨rfl, ((Below.refl _ _).alloc (Nat.le_refl _) _).alloc (by simp) _⟩
set_option maxHeartbeats 1000000 in
theorem live_ok {D : Nat → Prop} {w : World} {b0 bs bt N : Nat} {lv : Value} {F : FS} (h : FoldR w D b0 bs bt N lv F) {id : Int} (hi : IdOk id) {s : Sh} (hs : F.sh id = some s) (hfin : s.fin = false) :
    Calls Try.prog 70 #[.pointer (some ⟨b0, 0, none⟩), .int .i64 id] w fun e w' => ∃ so sc, e = .returned (.tuple #[.agg #[.int .i64 s.id, .int .i64 s.segs, .slice so s.lens.length sc, .bool false], .int .i64 0]) ∧
      (∀ k, (Value.slice so s.lens.length sc).ownBlock = some k → D k) ∧ SlR w' (.slice so s.lens.length sc) (u64s s.lens) ∧ s.lens.length ≤ sc ∧ sc ≤ 9223372036854775807 ∧ Below w.heap.size w w' := by
  obtain ⟨c0, _⟩ := h.cell
  obtain ⟨f, so, sc, hf, hval, hsl, hs1, hs2, ho⟩ := h.shAt hi hs
  have hb := ((Below.refl w.heap.size w).alloc (Nat.le_refl _) (.cells #[.int .i64 0, .int .i64 0, .slice none 0 0, .bool false] 35))
  have hl := shlook_two (hf.same (hb.block bs hf.lt)) hi
  rw [hval] at hl
  simp only [shLook, Option.getD_some, Option.isSome_some] at hl
  rw [hfin] at hl
  have hc0 := (hb.cell (h.lt _ h.d0)).trans c0
  have HSl := Lib.hid hsl
  have HOw : Hid (∀ k, (Value.slice so s.lens.length sc).ownBlock = some k → D k) := Lib.hid (fun k hk => (ho k hk).1)
  clear hval hs hsl ho h
  go_enter Try.func70, Try.ntmps70
  go_wp2
  go_returns
  exact ⟨so, sc, rfl, HOw.out, HSl.out.below (((Below.refl w.heap.size w).alloc (Nat.le_refl _) _).alloc (by simp) _) (Nat.le_refl _), hs1, hs2, ((Below.refl _ _).alloc (Nat.le_refl _) _).alloc (by simp) _⟩

/-- The value that a state's cell holds for the shards' map, the spans, the numbers. -/
theorem FoldR.heap {D : Nat → Prop} {w : World} {b0 bs bt N : Nat} {lv : Value} {F : FS} (h : FoldR w D b0 bs bt N lv F) : b0 < w.heap.size := h.lt _ h.d0
/-- The low end is set. -/
def trimF (F : FS) (pos : Int) : FS := { F with low := max F.low pos }
theorem FoldR.setLow {D : Nat → Prop} {w : World} {b0 bs bt N : Nat} {lv : Value} {F : FS} (h : FoldR w D b0 bs bt N lv F) (x : Int) (hx0 : 0 ≤ x) (hx : x ≤ F.n) : FoldR (w.setCell ⟨b0, 3, none⟩ (.int .u64 x)) D b0 bs bt N lv { F with low := x } := by
  obtain ⟨h1, h2, h3, h4, h5, h6, h7, h8, ⟨f, hf, hv, hvx⟩, ⟨g, hg, hgv⟩, h11, h12⟩ := h
  have hk := (Keep.refl (fun k => k = b0) w).setCell (p := ⟨b0, 3, none⟩) (Or.inl rfl) (.int .u64 x)
  refine ⟨?_, fun k hd => Nat.lt_of_lt_of_le (h2 k hd) hk.size, h3, h4, h5, h6, h7, own_keep h8 (fun b hb => hk.block b (h2 b (h6 b hb).1) (h6 b hb).2.1), ⟨f, hf.keep hk h7.1, (fun a ha => ?_), hvx⟩, ⟨g, hg.keep hk h7.2.1, hgv⟩, ⟨h11.1, h11.2.1, hx0, hx⟩, h12⟩
  · simpa using heap_setCell_same w b0 3 _ _ (.int .u64 x) h1
  · exact (hv a ha).keep hk (fun k hs _ => Or.inl hs) (fun _ h => h)
theorem max_le' (a b c : Int) (h1 : a ≤ c) (h2 : b ≤ c) : max a b ≤ c := by omega
set_option maxHeartbeats 1000000 in
theorem trim_later {D : Nat → Prop} {w : World} {b0 bs bt N : Nat} {lv v : Value} {F : FS} (h : FoldR w D b0 bs bt N lv F) {op client seq shard segs pos : Int} (hp : F.n < pos) (hv : v = .slice none 0 0) :
    Calls Try.prog 63 #[.pointer (some ⟨b0, 0, none⟩), .agg #[.int .i64 op, .int .u64 client, .int .u64 seq, .int .i64 shard, .int .i64 segs, .int .u64 pos, v]] w fun e w' => e = .returned (.int .i64 36) ∧ Below w.heap.size w w' := by
  subst hv
  obtain ⟨c0, c1, c2, c3, c4, z1, z2, z3⟩ := h.cell
  have hb := ((Below.refl w.heap.size w).alloc (Nat.le_refl _) (.cells #[.int .i64 op, .int .u64 client, .int .u64 seq, .int .i64 shard, .int .i64 segs, .int .u64 pos, .slice none 0 0] 46))
  have d2 := (hb.cell (p := ⟨b0, 2, none⟩) h.heap).trans c2
  have hd : decide (F.n < pos) = true := decide_eq_true hp
  clear h
  go_enter Try.func63, Try.ntmps63
  go_wp2
  go_quiet (fail)
  go_wp2
  go_ret
  exact ⟨rfl, below_drewN hb _⟩
set_option maxHeartbeats 1000000 in
theorem trim_ok {D : Nat → Prop} {w : World} {b0 bs bt N : Nat} {lv v : Value} {F : FS} (h : FoldR w D b0 bs bt N lv F) {op client seq shard segs pos : Int} (hp0 : 0 ≤ pos) (hp : pos ≤ F.n) (hv : v = .slice none 0 0) :
    Calls Try.prog 63 #[.pointer (some ⟨b0, 0, none⟩), .agg #[.int .i64 op, .int .u64 client, .int .u64 seq, .int .i64 shard, .int .i64 segs, .int .u64 pos, v]] w fun e w' => e = .returned (.int .i64 0) ∧ FoldR w' D b0 bs bt N lv (trimF F pos) ∧ Keep (fun k => k = b0) w w' := by
  subst hv
  have H := Lib.hid h
  obtain ⟨c0, c1, c2, c3, c4, z1, z2, z3⟩ := h.cell
  have hb := ((Below.refl w.heap.size w).alloc (Nat.le_refl _) (.cells #[.int .i64 op, .int .u64 client, .int .u64 seq, .int .i64 shard, .int .i64 segs, .int .u64 pos, .slice none 0 0] 46))
  have hR := H.out.below hb (Nat.le_refl _)
  obtain ⟨e0, e1, d2, d3, e4, y1, y2, y3⟩ := hR.cell
  have HR := Lib.hid hR
  have HB := Lib.hid hb
  have hd : decide (F.n < pos) = false := decide_eq_false (by omega)
  have hnum := h.num
  have hb0 := h.heap
  clear h hR hb c0 c1 c2 c3 c4 z1 z2 z3 e0 e1 e4 y1 y2
  obtain ⟨T, hT, hTc⟩ : ∃ T, T = max F.low pos ∧ ((F.low < pos ∧ T = pos) ∨ (pos ≤ F.low ∧ T = F.low)) := ⟨_, rfl, by omega⟩
  have hF : trimF F pos = { F with low := T } := by unfold trimF; rw [hT]
  have HF := Lib.hid hF
  have HT : Hid (0 ≤ T ∧ T ≤ F.n) := Lib.hid (by omega)
  clear hT hF hnum
  rcases hTc with ⟨hT1, hT2⟩ | ⟨hT1, hT2⟩
  all_goals
    subst hT2
    go_enter Try.func63, Try.ntmps63
    go_wp2
    go_quiet (fail)
    go_wp2
    go_region
    go_wp2
    go_ret
    refine ⟨rfl, ?_, ?_⟩
    · rw [HF.out]
      exact ((HR.out.below (below_drewN (Below.refl _ _) _) (Nat.le_refl _)).below ((Below.refl _ _).drew) (Nat.le_refl _)).setLow _ HT.out.1 HT.out.2
    · exact ((((Below.keep0 (fun k => k = b0) HB.out).drewN _).drew).setCell (p := ⟨b0, 3, none⟩) (Or.inl rfl) _)
end Go.Proofs.Ytabanackdjlcmaa
