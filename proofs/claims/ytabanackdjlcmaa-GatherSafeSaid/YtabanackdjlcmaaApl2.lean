/-
  Package fold: Apply of whatever command, as an object's turn.
-/
import Derived.Test.YtabanackdjlcmaaFoldV
import Derived.Test.YtabanackdjlcmaaConf8
namespace Go.Proofs.Ytabanackdjlcmaa
open Go.ChangeShapes Go.WideShapes Go.ChangeAt Go.RowKit Go.Maps
set_option maxRecDepth 100000

set_option maxHeartbeats 1000000 in
theorem trim_later2 {D : Nat → Prop} {w : World} {b0 bs bt N : Nat} {lv v : Value} {F : FS} (h : FoldR w D b0 bs bt N lv F) {op client seq shard segs pos : Int} (hp : F.n < pos) {vo : Option Addr} {vn vc : Nat} (hv : v = .slice vo vn vc) :
    Calls Try.prog 63 #[.pointer (some ⟨b0, 0, none⟩), .agg #[.int .i64 op, .int .u64 client, .int .u64 seq, .int .i64 shard, .int .i64 segs, .int .u64 pos, v]] w fun e w' => e = .returned (.int .i64 36) ∧ Below w.heap.size w w' := by
  subst hv
  obtain ⟨c0, c1, c2, c3, c4, z1, z2, z3⟩ := h.cell
  have hb := ((Below.refl w.heap.size w).alloc (Nat.le_refl _) (.cells #[.int .i64 op, .int .u64 client, .int .u64 seq, .int .i64 shard, .int .i64 segs, .int .u64 pos, .slice vo vn vc] 46))
  have d2 := (hb.cell (p := ⟨b0, 2, none⟩) h.heap).trans c2
  have hd : decide (F.n < pos) = true := decide_eq_true hp
  clear h
  go_enter Try.func63, Try.ntmps63
  go_wp2
  go_quiet (fail)
  go_wp2
  go_ret
  exact ⟨rfl, below_drewN hb _⟩
set_option maxHeartbeats 1000000 in
theorem trim_ok2 {D : Nat → Prop} {w : World} {b0 bs bt N : Nat} {lv v : Value} {F : FS} (h : FoldR w D b0 bs bt N lv F) {op client seq shard segs pos : Int} (hp0 : 0 ≤ pos) (hp : pos ≤ F.n) {vo : Option Addr} {vn vc : Nat} (hv : v = .slice vo vn vc) :
    Calls Try.prog 63 #[.pointer (some ⟨b0, 0, none⟩), .agg #[.int .i64 op, .int .u64 client, .int .u64 seq, .int .i64 shard, .int .i64 segs, .int .u64 pos, v]] w fun e w' => e = .returned (.int .i64 0) ∧ FoldR w' D b0 bs bt N lv (trimF F pos) ∧ Keep (fun k => k = b0) w w' := by
  subst hv
  have H := Lib.hid h
  obtain ⟨c0, c1, c2, c3, c4, z1, z2, z3⟩ := h.cell
  have hb := ((Below.refl w.heap.size w).alloc (Nat.le_refl _) (.cells #[.int .i64 op, .int .u64 client, .int .u64 seq, .int .i64 shard, .int .i64 segs, .int .u64 pos, .slice vo vn vc] 46))
  have hR := H.out.below hb (Nat.le_refl _)
  obtain ⟨e0, e1, d2, d3, e4, y1, y2, y3⟩ := hR.cell
  have HR := Lib.hid hR
  have HB := Lib.hid hb
  have hd : decide (F.n < pos) = false := decide_eq_false (by omega)
  have hnum := h.num
  have hb0 := h.heap
  clear h hR hb c0 c1 c2 c3 c4 z1 z2 z3 e0 e1 e4 y1 y2
  obtain ⟨T, hT, hTc⟩ : ∃ T, T = max F.low pos ∧ ((F.low < pos ∧ T = pos) ∨ (pos ≤ F.low ∧ T = F.low)) := ⟨_, rfl, by omega⟩
  have hF : trimF F pos = { F with low := T } := by unfold trimF; rw [hT]
  have HF := Lib.hid hF
  have HT : Hid (0 ≤ T ∧ T ≤ F.n) := Lib.hid (by omega)
  clear hT hF hnum
  rcases hTc with ⟨hT1, hT2⟩ | ⟨hT1, hT2⟩
  all_goals
    subst hT2
    go_enter Try.func63, Try.ntmps63
    go_wp2
    go_quiet (fail)
    go_wp2
    go_region
    go_wp2
    go_ret
    refine ⟨rfl, ?_, ?_⟩
    · rw [HF.out]
      exact ((HR.out.below (below_drewN (Below.refl _ _) _) (Nat.le_refl _)).below ((Below.refl _ _).drew) (Nat.le_refl _)).setLow _ HT.out.1 HT.out.2
    · exact ((((Below.keep0 (fun k => k = b0) HB.out).drewN _).drew).setCell (p := ⟨b0, 3, none⟩) (Or.inl rfl) _)
set_option maxHeartbeats 1000000 in
theorem add_twice2 {D : Nat → Prop} {w : World} {b0 bs bt N : Nat} {lv v : Value} {F : FS} (h : FoldR w D b0 bs bt N lv F) {op client seq shard segs pos : Int} (hi : IdOk shard) {s : Sh} (hs : F.sh shard = some s) {vo : Option Addr} {vn vc : Nat} (hv : v = .slice vo vn vc) :
    Calls Try.prog 61 #[.pointer (some ⟨b0, 0, none⟩), .agg #[.int .i64 op, .int .u64 client, .int .u64 seq, .int .i64 shard, .int .i64 segs, .int .u64 pos, v]] w fun e w' => e = .returned (.int .i64 31) ∧ Below w.heap.size w w' := by
  subst hv
  have hb := ((Below.refl w.heap.size w).alloc (Nat.le_refl _) (.cells #[.int .i64 op, .int .u64 client, .int .u64 seq, .int .i64 shard, .int .i64 segs, .int .u64 pos, .slice vo vn vc] 46)).drew
  have hR := h.below hb (Nat.le_refl _)
  obtain ⟨c0, _⟩ := hR.cell
  obtain ⟨f, so, sc, hf, hval, hsl, hs1, hs2, ho⟩ := hR.shAt hi hs
  have hl := fun (w' : World) (hb' : Below (w.alloc (.cells #[.int .i64 op, .int .u64 client, .int .u64 seq, .int .i64 shard, .int .i64 segs, .int .u64 pos, .slice vo vn vc] 46)).heap.size (w.alloc (.cells #[.int .i64 op, .int .u64 client, .int .u64 seq, .int .i64 shard, .int .i64 segs, .int .u64 pos, .slice vo vn vc] 46)) w') => shlook_two (hf.same (hb'.block bs hf.lt)) hi
  rw [hval] at hl
  simp only [shLook, Option.getD_some, Option.isSome_some] at hl
  have x3 : (w.alloc (.cells #[.int .i64 op, .int .u64 client, .int .u64 seq, .int .i64 shard, .int .i64 segs, .int .u64 pos, .slice vo vn vc] 46)).cell? ⟨w.heap.size, 3, none⟩ = some (.int .i64 shard) := World.news_of_block (heap_alloc_new w _) 3 _ rfl
  have hbl : b0 < w.heap.size := h.heap
  have hbl2 : b0 < (w.alloc (.cells #[.int .i64 op, .int .u64 client, .int .u64 seq, .int .i64 shard, .int .i64 segs, .int .u64 pos, .slice vo vn vc] 46)).heap.size := by simp; omega
  have hcT : ∀ w' : World, Below (w.alloc (.cells #[.int .i64 op, .int .u64 client, .int .u64 seq, .int .i64 shard, .int .i64 segs, .int .u64 pos, .slice vo vn vc] 46)).heap.size (w.alloc (.cells #[.int .i64 op, .int .u64 client, .int .u64 seq, .int .i64 shard, .int .i64 segs, .int .u64 pos, .slice vo vn vc] 46)) w' → (w'.cell? ⟨b0, 0, none⟩ = some (.map (some bs)) ∧ w'.cell? ⟨w.heap.size, 3, none⟩ = some (.int .i64 shard) ∧ (Instr.lookup 86 (.map (some bs)) (.int .i64 shard) true).run Try.prog w' = .ok (.tuple #[.agg #[.int .i64 s.id, .int .i64 s.segs, .slice so s.lens.length sc, .bool s.fin], .bool true]) w') :=
    fun w' hb' => ⟨(hb'.cell (p := ⟨b0, 0, none⟩) hbl2).trans c0, (hb'.cell (p := ⟨w.heap.size, 3, none⟩) (by simp)).trans x3, hl w' hb'⟩
  have hcS := hcT _ (Below.refl _ (w.alloc (.cells #[.int .i64 op, .int .u64 client, .int .u64 seq, .int .i64 shard, .int .i64 segs, .int .u64 pos, .slice vo vn vc] 46))).drew
  have hcU := fun (o : Obj) => hcT _ (((Below.refl _ (w.alloc (.cells #[.int .i64 op, .int .u64 client, .int .u64 seq, .int .i64 shard, .int .i64 segs, .int .u64 pos, .slice vo vn vc] 46))).alloc (Nat.le_refl _) o).drew)
  have HB := Lib.hid hb
  clear hval hs hsl ho h hR hb hl hcT c0
  go_enter Try.func61, Try.ntmps61
  go_wp2
  go_region_held3 (fun w' => w'.cell? ⟨b0, 0, none⟩ = some (.map (some bs)) ∧ w'.cell? ⟨w.heap.size, 3, none⟩ = some (.int .i64 shard) ∧ (Instr.lookup 86 (.map (some bs)) (.int .i64 shard) true).run Try.prog w' = .ok (.tuple #[.agg #[.int .i64 s.id, .int .i64 s.segs, .slice so s.lens.length sc, .bool s.fin], .bool true]) w') (first | exact hcS | exact hcU _ | go_keep) (fail)
  all_goals
    go_wp2
    go_ret
    refine ⟨rfl, ?_⟩
    first
      | exact HB.out
      | exact (((Below.refl w.heap.size w).alloc (Nat.le_refl _) _).alloc (by simp) _).drew
      | exact (((Below.refl w.heap.size w).alloc (Nat.le_refl _) _).drew.alloc (by simp [World.drew]) _)

set_option maxHeartbeats 1000000 in
theorem add_new2 {D : Nat → Prop} {w : World} {b0 bs bt N : Nat} {lv v : Value} {F : FS} (h : FoldR w D b0 bs bt N lv F) {op client seq shard pos : Int} {sg : Nat} (hi : IdOk shard) (hs1 : 1 ≤ sg) (hs4 : sg ≤ 4) (hN : N < 1000000) (hs : F.sh shard = none) {vo : Option Addr} {vn vc : Nat} (hv : v = .slice vo vn vc) :
    Calls Try.prog 61 #[.pointer (some ⟨b0, 0, none⟩), .agg #[.int .i64 op, .int .u64 client, .int .u64 seq, .int .i64 shard, .int .i64 (sg : Int), .int .u64 pos, v]] w fun e w' => e = .returned (.int .i64 0) ∧ FoldR w' D b0 bs bt (N + 1) lv (putS F shard ⟨shard, sg, [], false⟩) ∧ Keep (fun k => k = bs) w w' := by
  subst hv
  have H := Lib.hid h
  have hb := ((Below.refl w.heap.size w).alloc (Nat.le_refl _) (.cells #[.int .i64 op, .int .u64 client, .int .u64 seq, .int .i64 shard, .int .i64 (sg : Int), .int .u64 pos, .slice vo vn vc] 46))
  have hR := h.below hb (Nat.le_refl _)
  obtain ⟨c0, _⟩ := hR.cell
  obtain ⟨f, hf, hvals, hvx⟩ := hR.sh
  have hval := hvals shard hi
  rw [hs] at hval
  simp only [ShV] at hval
  have hl := fun (w' : World) (hb' : Below (w.alloc (.cells #[.int .i64 op, .int .u64 client, .int .u64 seq, .int .i64 shard, .int .i64 (sg : Int), .int .u64 pos, .slice vo vn vc] 46)).heap.size (w.alloc (.cells #[.int .i64 op, .int .u64 client, .int .u64 seq, .int .i64 shard, .int .i64 (sg : Int), .int .u64 pos, .slice vo vn vc] 46)) w') => shlook_two (hf.same (hb'.block bs hf.lt)) hi
  rw [hval] at hl
  simp only [shLook, Option.getD_none, Option.isSome_none, zeroSh] at hl
  have x3 : (w.alloc (.cells #[.int .i64 op, .int .u64 client, .int .u64 seq, .int .i64 shard, .int .i64 (sg : Int), .int .u64 pos, .slice vo vn vc] 46)).cell? ⟨w.heap.size, 3, none⟩ = some (.int .i64 shard) := World.news_of_block (heap_alloc_new w _) 3 _ rfl
  have x4 : (w.alloc (.cells #[.int .i64 op, .int .u64 client, .int .u64 seq, .int .i64 shard, .int .i64 (sg : Int), .int .u64 pos, .slice vo vn vc] 46)).cell? ⟨w.heap.size, 4, none⟩ = some (.int .i64 (sg : Int)) := World.news_of_block (heap_alloc_new w _) 4 _ rfl
  have hbl : b0 < w.heap.size := h.heap
  have hbl2 : b0 < (w.alloc (.cells #[.int .i64 op, .int .u64 client, .int .u64 seq, .int .i64 shard, .int .i64 (sg : Int), .int .u64 pos, .slice vo vn vc] 46)).heap.size := by simp; omega
  have hcT : ∀ w' : World, Below (w.alloc (.cells #[.int .i64 op, .int .u64 client, .int .u64 seq, .int .i64 shard, .int .i64 (sg : Int), .int .u64 pos, .slice vo vn vc] 46)).heap.size (w.alloc (.cells #[.int .i64 op, .int .u64 client, .int .u64 seq, .int .i64 shard, .int .i64 (sg : Int), .int .u64 pos, .slice vo vn vc] 46)) w' → (w'.cell? ⟨b0, 0, none⟩ = some (.map (some bs)) ∧ w'.cell? ⟨w.heap.size, 3, none⟩ = some (.int .i64 shard) ∧ w'.cell? ⟨w.heap.size, 4, none⟩ = some (.int .i64 (sg : Int)) ∧ (Instr.lookup 86 (.map (some bs)) (.int .i64 shard) true).run Try.prog w' = .ok (.tuple #[.agg #[.int .i64 0, .int .i64 0, .slice none 0 0, .bool false], .bool false]) w') :=
    fun w' hb' => ⟨(hb'.cell (p := ⟨b0, 0, none⟩) hbl2).trans c0, (hb'.cell (p := ⟨w.heap.size, 3, none⟩) (by simp)).trans x3, (hb'.cell (p := ⟨w.heap.size, 4, none⟩) (by simp)).trans x4, hl w' hb'⟩
  have hcS := hcT _ (Below.refl _ (w.alloc (.cells #[.int .i64 op, .int .u64 client, .int .u64 seq, .int .i64 shard, .int .i64 (sg : Int), .int .u64 pos, .slice vo vn vc] 46))).drew
  have hcU := fun (o : Obj) => hcT _ (((Below.refl _ (w.alloc (.cells #[.int .i64 op, .int .u64 client, .int .u64 seq, .int .i64 shard, .int .i64 (sg : Int), .int .u64 pos, .slice vo vn vc] 46))).alloc (Nat.le_refl _) o).drew)
  have HT := Lib.hid hcT
  have HB := Lib.hid hb
  have HR := Lib.hid hR
  have hst : ∀ w1 : World, Below (w.alloc (.cells #[.int .i64 op, .int .u64 client, .int .u64 seq, .int .i64 shard, .int .i64 (sg : Int), .int .u64 pos, .slice vo vn vc] 46)).heap.size (w.alloc (.cells #[.int .i64 op, .int .u64 client, .int .u64 seq, .int .i64 shard, .int .i64 (sg : Int), .int .u64 pos, .slice vo vn vc] 46)) w1 → ∃ w2, (Instr.mapUpdate 86 (.map (some bs)) (.int .i64 shard) (.agg #[.int .i64 shard, .int .i64 (sg : Int), .slice none 0 0, .bool false])).run Try.prog w1 = .ok () w2 ∧ FoldR w2 D b0 bs bt (N + 1) lv (putS F shard ⟨shard, sg, [], false⟩) ∧ Keep (fun k => k = bs) w w2 ∧ w1.grownBy w2 (some bs) := by
    intro w1 hb1
    obtain ⟨w2, g1, g2, g3⟩ := (hf.same (hb1.block bs hf.lt)).store idKeyed Try.underlying86 (by unfold maxLen; omega) (val := .agg #[.int .i64 shard, .int .i64 (sg : Int), .slice none 0 0, .bool false]) (id_key hi) (by trivial)
    have h1 := hR.below hb1 (Nat.le_refl _)
    refine ⟨w2, g1, h1.putSh hi (s := ⟨shard, sg, [], false⟩) (sv := .slice none 0 0) g3 (fun a ha => (hvals a ha).keep (Below.keep0 (fun _ => False) hb1) (fun k hk => hk.elim) (fun _ h => h)) hvx g2 (SlR.nil _) (by intro k hk; cases hk) ⟨by simp, hs1, hs4, rfl, by intro x hx; cases hx⟩, ?_, g3⟩
    exact ((Below.keep0 (fun k => k = bs) hb).trans (Below.keep0 _ hb1)).trans (Keep.grown g3 (fun k hk => by cases hk; rfl))
  have HSt := Lib.hid hst
  clear hval hs h hR hb hl hcT c0 hst hvals hf x3 x4
  go_enter Try.func61, Try.ntmps61
  go_wp2
  go_region_held3 (fun w' => w'.cell? ⟨b0, 0, none⟩ = some (.map (some bs)) ∧ w'.cell? ⟨w.heap.size, 3, none⟩ = some (.int .i64 shard) ∧ w'.cell? ⟨w.heap.size, 4, none⟩ = some (.int .i64 (sg : Int)) ∧ (Instr.lookup 86 (.map (some bs)) (.int .i64 shard) true).run Try.prog w' = .ok (.tuple #[.agg #[.int .i64 0, .int .i64 0, .slice none 0 0, .bool false], .bool false]) w') (first | exact hcS | exact hcU _ | go_keep) (fail)
  all_goals
    go_wp2_with fail
    have hB2 := ((Below.refl _ (w.alloc (.cells #[.int .i64 op, .int .u64 client, .int .u64 seq, .int .i64 shard, .int .i64 (sg : Int), .int .u64 pos, .slice vo vn vc] 46))).alloc (Nat.le_refl _) (.cells #[.int .i64 0, .int .i64 0, .slice none 0 0, .bool false] 35)).drew
    obtain ⟨s0, s1, s2, _⟩ := HT.out _ hB2.drew
    obtain ⟨w2, hrun, hf2, hk2, hg2⟩ := HSt.out _ hB2.drew
    have hne := H.out.ne
    have hds := H.out.lt _ H.out.ds
    have u0 := hf2.cell.1
    have hsz : w.heap.size < (w.alloc (.cells #[.int .i64 op, .int .u64 client, .int .u64 seq, .int .i64 shard, .int .i64 (sg : Int), .int .u64 pos, .slice vo vn vc] 46)).heap.size := by simp
    have u1 : w2.cell? ⟨w.heap.size, 3, none⟩ = some (.int .i64 shard) ∧ w2.cell? ⟨w.heap.size, 4, none⟩ = some (.int .i64 (sg : Int)) := by
      exact ⟨hg2.cell s1 (by simp; omega), hg2.cell s2 (by simp; omega)⟩
    have hcX := And.intro u0 u1
    have hcY := And.intro s0 (And.intro s1 s2)
    have HF2 := Lib.hid hf2
    have HK2 := Lib.hid hk2
    clear hf2 hk2 u0 u1 hg2
    go_region_held3 (fun w' => w'.cell? ⟨b0, 0, none⟩ = some (.map (some bs)) ∧ w'.cell? ⟨w.heap.size, 3, none⟩ = some (.int .i64 shard) ∧ w'.cell? ⟨w.heap.size, 4, none⟩ = some (.int .i64 (sg : Int))) (first | exact hcY | exact hcX | go_keep) (fail)
    go_wp2
    go_ret
    exact ⟨rfl, HF2.out, HK2.out⟩
/-- What a command that may be comes to. -/
def doE (F : FS) (c : Cm) : Int := if c.op = 1 then addE F c.shard else if c.op = 2 then sealE F c.shard c.rows else if c.op = 3 then trimE F c.pos else if c.op = 4 then cutE F c.rows else 0
def doF (F : FS) (c : Cm) : FS := if c.op = 1 then addR F c.shard c.segs.toNat else if c.op = 2 then sealR F c.shard c.rows else if c.op = 3 then trimR F c.pos else if c.op = 4 then cutR F c.rows else F
end Go.Proofs.Ytabanackdjlcmaa

namespace Go.Proofs.Ytabanackdjlcmaa
open Go.ChangeShapes Go.WideShapes Go.ChangeAt Go.RowKit Go.Maps
set_option maxRecDepth 100000

theorem rowsB_at {rs : Rw} (h : rowsB rs = true) {i : Nat} {r : Int × List Int} (hr : rs[i]? = some r) : rowOkAt rs i = true := by
  unfold rowsB at h
  rw [List.all_eq_true] at h
  exact h i (by have := (List.getElem?_eq_some_iff.1 hr).1; simpa using this)
theorem rowsB_ge {rs : Rw} (h : rowsB rs = true) : ∀ (i : Nat) (r : Int × List Int), rs[i]? = some r → (i : Int) ≤ r.1 ∧ r.1 < 8 := by
  intro i
  induction i with
  | zero =>
    intro r hr
    have := rowsB_at h hr
    unfold rowOkAt at this
    rw [hr] at this
    simp only [Bool.and_eq_true, decide_eq_true_eq] at this
    exact ⟨this.1.1.1.1, this.1.1.1.2⟩
  | succ i ih =>
    intro r hr
    have h1 := rowsB_at h hr
    have hlt := (List.getElem?_eq_some_iff.1 hr).1
    obtain ⟨q, hq⟩ : ∃ q, rs[i]? = some q := ⟨_, List.getElem?_eq_getElem (by omega)⟩
    have h2 := ih q hq
    unfold rowOkAt at h1
    rw [hr] at h1
    simp only [Bool.and_eq_true, decide_eq_true_eq, Nat.add_sub_cancel, List.getD_eq_getElem?_getD, hq, Option.getD_some, Bool.or_eq_true, beq_iff_eq] at h1
    obtain ⟨⟨⟨⟨_, h3⟩, h4⟩, _⟩, _⟩ := h1
    rcases h4 with h4 | h4
    · omega
    · exact ⟨by omega, h3⟩
theorem rowsB_len {rs : Rw} (h : rowsB rs = true) : rs.length ≤ 8 := by
  by_cases h0 : rs.length = 0
  · omega
  · have hr := List.getElem?_eq_getElem (show rs.length - 1 < rs.length by omega)
    have := rowsB_ge h _ _ hr
    omega
set_option maxHeartbeats 1000000 in
theorem FoldR.doing {D : Nat → Prop} {w : World} {b0 bs bt n : Nat} {lv : Value} {F : FS} (h2 : FoldR w D b0 bs bt n lv F) {c : Cm} {v : Value} (hvk : RowsD D w v c.rows) (hcb : checkB c = true) (hu : ∀ r ∈ c.rows, U64 r.2) (hpos : 0 ≤ c.pos) (hFl : F.l.length ≤ 1000000000) (hN : n ≤ 900000) :
    Calls Try.prog 46 #[.pointer (some ⟨b0, 0, none⟩), cmV c v] w fun e w' => e = .returned (.int .i64 (doE F c)) ∧ ∃ D' n' lv', FoldR w' D' b0 bs bt n' lv' (doF F c) ∧ n' ≤ n + 9 ∧ Moved D D' w w' := by
  obtain ⟨op, client, seq, shard, segs, pos, rs⟩ := c
  have hv0 := hvk w (Keep.refl _ _)
  have hv2 : ∃ ao n c, v = .slice ao n c := by obtain ⟨ao, c, e, _⟩ := hv0; exact ⟨ao, _, c, e⟩
  unfold checkB checkA at hcb
  simp only [Bool.and_eq_true, decide_eq_true_eq] at hcb
  obtain ⟨⟨⟨⟨⟨⟨⟨ho0, ho4⟩, hfit⟩, hs0⟩, hs8⟩, hrow⟩, hadd⟩, hseal⟩ := hcb
  have hi : IdOk shard := ⟨hs0, by omega⟩
  have hrl := rowsB_len hrow
  simp only at hrl hpos hu hvk hs8
  suffices hsuf : Calls Try.prog 46 #[.pointer (some ⟨b0, 0, none⟩), cmV ⟨op, client, seq, shard, segs, pos, rs⟩ v] w fun e w' => ∃ x, e = .returned (.int .i64 x) ∧ (x = doE F ⟨op, client, seq, shard, segs, pos, rs⟩ ∧ ∃ D' n' lv', FoldR w' D' b0 bs bt n' lv' (doF F ⟨op, client, seq, shard, segs, pos, rs⟩) ∧ n' ≤ n + 9 ∧ Moved D D' w w') by
    refine hsuf.mono ?_
    rintro e w' ⟨x, rfl, rfl, hh⟩
    exact ⟨rfl, hh⟩
  have h5 : op = 0 ∨ op = 1 ∨ op = 2 ∨ op = 3 ∨ op = 4 := by omega
  obtain ⟨vo, vn, vc, hve⟩ := hv2
  rcases h5 with rfl | rfl | rfl | rfl | rfl
  · refine (do_nop w b0 client seq shard segs pos v ⟨vo, vn, vc, hve⟩).mono ?_
    rintro e w' ⟨rfl, hb⟩
    exact ⟨0, rfl, rfl, D, n, lv, h2.below hb (Nat.le_refl _), by omega, Moved.of (Below.keep0 D hb)⟩
  · simp at hadd
    obtain ⟨sg, rfl⟩ := Int.eq_ofNat_of_zero_le (show 0 ≤ segs by omega)
    refine do_add w b0 client seq shard sg pos v ⟨vo, vn, vc, hve⟩ (fun w2 hb2 => ?_)
    have hR := h2.below hb2 (Nat.le_refl _)
    cases hs : F.sh shard with
    | none =>
      refine (add_new2 hR hi (by omega) (by omega) (by omega) hs hve).mono ?_
      rintro e w' ⟨rfl, hr, hk⟩
      refine ⟨0, rfl, by simp [doE, addE, hs], D, n + 1, lv, ?_, by omega, Moved.of ((Below.keep0 D hb2).trans (hk.mono (fun k _ e => by subst e; exact hR.ds)))⟩
      simpa [doF, addR, hs] using hr
    | some s =>
      refine (add_twice2 hR hi hs hve).mono ?_
      rintro e w' ⟨rfl, hb3⟩
      refine ⟨31, rfl, by simp [doE, addE, hs], D, n, lv, ?_, by omega, Moved.of ((Below.keep0 D hb2).trans (Below.keep0 D hb3))⟩
      simpa [doF, addR, hs] using hR.below hb3 (Nat.le_refl _)
  · refine do_seal w b0 client seq shard segs pos v ⟨vo, vn, vc, hve⟩ (fun w2 hb2 => ?_)
    refine (seal_any (h2.below hb2 (Nat.le_refl _)) (hvk.below hb2) hrl hFl (by omega) hrow hu hi).mono ?_
    rintro e w' ⟨rfl, hneg, hpos'⟩
    refine ⟨_, rfl, by simp [doE], ?_⟩
    rw [show doF F ⟨2, client, seq, shard, segs, pos, rs⟩ = sealR F shard rs by simp [doF]]
    unfold sealR
    by_cases hc : sealE F shard rs = 0
    · obtain ⟨D', lv', hf, hk, hs, hn⟩ := hpos' hc
      rw [if_pos hc]
      exact ⟨D', _, lv', hf, by omega, (Moved.of (Below.keep0 D hb2)).trans ⟨hk, hs, hn⟩⟩
    · rw [if_neg hc]
      have hb := hb2.trans ((hneg hc).mono hb2.size)
      exact ⟨D, n, lv, h2.below hb (Nat.le_refl _), by omega, Moved.of (Below.keep0 D hb)⟩
  · refine do_trim w b0 client seq shard segs pos v ⟨vo, vn, vc, hve⟩ (fun w2 hb2 => ?_)
    have hR := h2.below hb2 (Nat.le_refl _)
    by_cases hpn : pos ≤ F.n
    · refine (trim_ok2 hR hpos hpn hve).mono ?_
      rintro e w' ⟨rfl, hr, hk⟩
      refine ⟨0, rfl, by simp [doE, trimE, hpn], D, n, lv, ?_, by omega, Moved.of ((Below.keep0 D hb2).trans (hk.mono (fun k _ e => by subst e; exact hR.d0)))⟩
      simpa [doF, trimR, hpn] using hr
    · refine (trim_later2 hR (by omega) hve).mono ?_
      rintro e w' ⟨rfl, hb3⟩
      refine ⟨36, rfl, by simp [doE, trimE, hpn], D, n, lv, ?_, by omega, Moved.of ((Below.keep0 D hb2).trans (Below.keep0 D hb3))⟩
      simpa [doF, trimR, hpn] using hR.below hb3 (Nat.le_refl _)
  · refine do_cut w b0 client seq shard segs pos v ⟨vo, vn, vc, hve⟩ (fun w2 hb2 hcell => ?_)
    refine do1_any w2 b0 _ _ _ _ _ _ _ v ⟨vo, vn, vc, hve⟩ hcell (fun w3 hb3 => ?_)
    have hbb := hb2.trans (hb3.mono hb2.size)
    refine (cut_walk (h2.below hbb (Nat.le_refl _)) (hvk.below hbb) hrl hFl (by omega) hrow hu).mono ?_
    rintro e w' ⟨rfl, hneg, hpos'⟩
    refine ⟨_, rfl, by simp [doE], ?_⟩
    rw [show doF F ⟨4, client, seq, shard, segs, pos, rs⟩ = cutR F rs by simp [doF]]
    unfold cutR
    by_cases hc : cutE F rs = 0
    · obtain ⟨D', lv', hf, hk, hs, hn⟩ := hpos' hc
      rw [if_pos hc]
      exact ⟨D', _, lv', hf, by omega, (Moved.of (Below.keep0 D hbb)).trans ⟨hk, hs, hn⟩⟩
    · rw [if_neg hc]
      have hb := hbb.trans ((hneg hc).mono hbb.size)
      exact ⟨D, n, lv, h2.below hb (Nat.le_refl _), by omega, Moved.of (Below.keep0 D hb)⟩
end Go.Proofs.Ytabanackdjlcmaa

namespace Go.Proofs.Ytabanackdjlcmaa
open Go.ChangeShapes Go.WideShapes Go.ChangeAt Go.RowKit Go.Maps
set_option maxRecDepth 100000

theorem below_lt (w : World) (o : Obj) : Below w.heap.size w (w.alloc o) := (Below.refl _ _).alloc (Nat.le_refl _) _
open Classical in
/-- An outcome is noted. -/
noncomputable def tellF (F : FS) (a b x : Int) : FS := { F with told := fun c d => if wk c d = wk a b then some x else F.told c d }
theorem FoldR.tell {D : Nat → Prop} {w : World} {b0 bs bt n : Nat} {lv : Value} {F : FS} (h : FoldR w D b0 bs bt n lv F) {a b : Int} (ha : Nat64 a) (hb : Nat64 b) (x : Int) (hN : n < 1000000) :
    ∃ w', (Instr.mapUpdate 87 (.map (some bt)) (.agg #[.int .u64 a, .int .u64 b]) (.int .i64 x)).run Try.prog w = .ok () w' ∧ FoldR w' D b0 bs bt (n + 1) lv (tellF F a b x) ∧ Keep (fun k => k = bt) w w' ∧ w.grownBy w' (some bt) := by
  obtain ⟨f, hf, hfv⟩ := h.told
  obtain ⟨w', hrun, hm, hg⟩ := hf.store whoKeyed Try.underlying87 (by unfold maxLen; omega) (wk_of ha hb) (val := .int .i64 x) (by trivial)
  have hk : Keep (fun k => k = bt) w w' := Keep.grown hg (fun k hk => by cases hk; rfl)
  obtain ⟨g, hg1, hg2, hg3⟩ := h.sh
  refine ⟨w', hrun, ⟨(hk.block b0 (h.lt _ h.d0) (fun e => h.ne.2.1 e.symm)).trans h.cells, fun k hd => Nat.lt_of_lt_of_le (h.lt k hd) hk.size, h.d0, h.ds, h.dt, h.dl, h.ne, own_keepS hk h.own (fun k hk' e => (h.dl k hk').2.2.2 e),
    ⟨g, (hg1.keep hk (fun e => h.ne.2.2 e)).mono (by omega), fun a' ha' => (hg2 a' ha').keep hk (fun k e _ => Or.inr (Or.inr (Or.inl e))) (fun _ h => h), hg3⟩, ⟨_, hm, fun c d => ?_⟩, h.num, h.small⟩, hk, hg⟩
  unfold putF tellF
  simp only
  by_cases e : wk c d = wk a b
  · rw [if_pos e, if_pos e]; rfl
  · rw [if_neg e, if_neg e]; exact hfv c d
def applyE (F : FS) (c : Cm) : Int := if checkB c = true then (if c.client = 0 ∧ c.seq = 0 then doE F c else match F.told c.client c.seq with | some x => x | none => doE F c) else 1
noncomputable def applyF (F : FS) (c : Cm) : FS := if checkB c = true then (if c.client = 0 ∧ c.seq = 0 then doF F c else match F.told c.client c.seq with | some _ => F | none => tellF (doF F c) c.client c.seq (doE F c)) else F
set_option maxHeartbeats 2000000 in
theorem apply_no (w : World) (b0 : Nat) {c : Cm} {v : Value} (hv : RowsL w v c.rows) (hl : c.rows.length ≤ 1000000) (hc : checkB c = false) :
    Calls Try.prog 25 #[.pointer (some ⟨b0, 0, none⟩), cmV c v] w fun e w' => e = .returned (.int .i64 1) ∧ Below w.heap.size w w' := by
  have hb := below_lt w (.cells #[.int .i64 c.op, .int .u64 c.client, .int .u64 c.seq, .int .i64 c.shard, .int .i64 c.segs, .int .u64 c.pos, v] 46)
  have HCk := Lib.hid (check_any (hv.below hb (Nat.le_refl _)) hl)
  have he : checkE c = 1 := by unfold checkE; rw [if_neg (by rw [hc]; decide)]
  rw [he] at HCk
  have HB := Lib.hid hb
  obtain ⟨ao, cc, rfl, _, _, _⟩ := id hv
  clear hv hb he hc
  go_enter Try.func25, Try.ntmps25
  go_wp2_with fail
  refine HCk.out.mono ?_
  rintro e w2 ⟨rfl, hb2⟩
  have HB2 := Lib.hid (HB.out.trans (hb2.mono HB.out.size))
  clear hb2
  go_wp2_with fail
  go_ret
  exact ⟨rfl, HB2.out⟩
set_option maxHeartbeats 2000000 in
theorem FoldO.tells {p : Value} {D : Nat → Prop} {w : World} {N : Nat} {F : FS} (h : FoldO p D w N F) {c : Cm} {v : Value} (hvk : RowsD D w v c.rows) (hcb : checkB c = true) (hu : ∀ r ∈ c.rows, U64 r.2) (hpos : 0 ≤ c.pos) (hcl : Nat64 c.client ∧ Nat64 c.seq) (hno : ¬ (c.client = 0 ∧ c.seq = 0)) (hFl : F.l.length ≤ 1000000000) (hN : N ≤ 900000) :
    Calls Try.prog 25 #[p, cmV c v] w fun e w' => e = .returned (.int .i64 (applyE F c)) ∧ ∃ D', FoldO p D' w' (N + 10) (applyF F c) ∧ Moved D D' w w' := by
  obtain ⟨b0, bs, bt, n, lv, rfl, h2, h3⟩ := h
  have hv0 := hvk w (Keep.refl _ _)
  have hb := below_lt w (.cells #[.int .i64 c.op, .int .u64 c.client, .int .u64 c.seq, .int .i64 c.shard, .int .i64 c.segs, .int .u64 c.pos, v] 46)
  have hblk := heap_alloc_new w (.cells #[.int .i64 c.op, .int .u64 c.client, .int .u64 c.seq, .int .i64 c.shard, .int .i64 c.segs, .int .u64 c.pos, v] 46)
  have HCk := Lib.hid (check_any (c := c) (hv0.below hb (Nat.le_refl _)) (by have := hcb; unfold checkB checkA at this; simp only [Bool.and_eq_true] at this; have := rowsB_len this.1.1.2; omega))
  have he : checkE c = 0 := by unfold checkE; rw [if_pos hcb]
  rw [he] at HCk
  have HB := Lib.hid hb
  have HBlk := Lib.hid hblk
  have HVk := Lib.hid hvk
  obtain ⟨ao, cc, rfl, _, _, _⟩ := id hv0
  obtain ⟨op, client, seq, shard, segs, pos, rs⟩ := c
  simp only at *
  have H := Lib.hid h2
  clear hv0 hvk hb hblk he h2
  go_enter Try.func25, Try.ntmps25
  go_wp2_with fail
  refine HCk.out.mono ?_
  rintro e w2 ⟨rfl, hb2⟩
  have k2 := (hb2.block w.heap.size (by simp)).trans HBlk.out
  have q1 : w2.cell? ⟨w.heap.size, 1, none⟩ = some (.int .u64 client) := by simp [World.cell?, k2]
  have q2 : w2.cell? ⟨w.heap.size, 2, none⟩ = some (.int .u64 seq) := by simp [World.cell?, k2]
  have hor : (client == 0) = false ∨ ((client == 0) = true ∧ (seq == 0) = false) := by
    by_cases hc0 : client = 0
    · right
      exact ⟨by rw [beq_iff_eq]; exact hc0, by rw [beq_eq_false_iff_ne]; exact fun h => hno ⟨hc0, h⟩⟩
    · left
      rw [beq_eq_false_iff_ne]; exact hc0
  go_upto_region 7 with fail
  go_cut [23] (fun s23 wx => s23 = .bool false ∧ wx = w2.alloc (.cells #[.int .u64 client, .int .u64 seq] 91))
  case first =>
    rcases hor with hor | ⟨hor, hor'⟩
    · go_wp2_with fail
      go_meet
      exact ⟨rfl, rfl⟩
    · go_wp2_with fail
      go_meet
      exact ⟨rfl, rfl⟩
  case rest =>
    obtain ⟨rfl, rfl⟩ := hcut
    clear hor q1 q2
    obtain ⟨W3, HW3⟩ : ∃ x, x = w2.alloc (.cells #[.int .u64 client, .int .u64 seq] 91) := ⟨_, rfl⟩
    rw [← HW3]
    have hb3 : Below w2.heap.size w2 W3 := by rw [HW3]; exact below_lt _ _
    have e3 : W3.heap[w2.heap.size]? = some (.cells #[.int .u64 client, .int .u64 seq] 91 (0, 0)) := by rw [HW3]; exact heap_alloc_new w2 _
    clear HW3
    have hs2 : w.heap.size < w2.heap.size := (Array.getElem?_eq_some_iff.1 k2).1
    have k3 := (hb3.block w.heap.size hs2).trans k2
    have hbw : Below w.heap.size w W3 := HB.out.trans ((hb2.mono HB.out.size).trans (hb3.mono (by omega)))
    have hR3 := H.out.below hbw (Nat.le_refl _)
    obtain ⟨f, hf, hfv⟩ := hR3.told
    obtain ⟨_, _, _, _, c4, _⟩ := hR3.cell
    have hlk0 := fun (W : World) (hW : W.heap[bt]? = W3.heap[bt]?) => (hf.same hW).look_ok whoKeyed Try.underlying87 (zeroErrno W) (wk_of hcl.1 hcl.2)
    simp only [hfv] at hlk0
    have hlk := fun n => hlk0 (W3.drewN n) rfl
    have hlo := fun n => (hf.same (show (W3.drewN n).heap[bt]? = W3.heap[bt]? from rfl)).look whoKeyed Try.underlying87 (zeroErrno (W3.drewN n)) (wk_of hcl.1 hcl.2)
    simp only [hfv] at hlo
    have u0 : W3.cell? ⟨w2.heap.size, 0, none⟩ = some (.int .u64 client) := World.news_of_block e3 0 _ rfl
    have u1 : W3.cell? ⟨w2.heap.size, 1, none⟩ = some (.int .u64 seq) := World.news_of_block e3 1 _ rfl
    have HR3 := Lib.hid hR3
    have HBw := Lib.hid hbw
    have HE3 := Lib.hid e3
    have HK3 := Lib.hid k3
    have HLk := Lib.hid hlk0
    clear hR3 hbw e3 k3 hf hfv hb3 hb2 k2 hlk0
    have HAE : Hid (applyE F ⟨op, client, seq, shard, segs, pos, rs⟩ = match F.told client seq with | some x => x | none => doE F ⟨op, client, seq, shard, segs, pos, rs⟩) := Lib.hid (by
      unfold applyE; rw [if_pos hcb, if_neg hno])
    have HAF : Hid (applyF F ⟨op, client, seq, shard, segs, pos, rs⟩ = match F.told client seq with | some _ => F | none => tellF (doF F ⟨op, client, seq, shard, segs, pos, rs⟩) client seq (doE F ⟨op, client, seq, shard, segs, pos, rs⟩)) := Lib.hid (by
      unfold applyF; rw [if_pos hcb, if_neg hno])
    cases ht : F.told client seq with
    | some x =>
      rw [ht] at hlk hlo HAE HAF
      simp only [Option.map_some, Option.getD_some, Option.isSome_some] at hlk hlo
      clear ht
      go_wp2_with fail
      go_quiet (fail)
      go_wp2_with fail
      obtain ⟨W4, HW4⟩ : ∃ z, z = W3.drewN nq := ⟨_, rfl⟩
      have hlo4 : ∀ n, (Instr.lookup 87 (.map (some bt)) (.agg #[.int .u64 client, .int .u64 seq]) false).run Try.prog (W4.drewN n) = .ok (.int .i64 x) (W4.drewN n) := fun n => by
        rw [HW4, show (W3.drewN nq).drewN n = W3.drewN (nq + n) by simp [drewN_eq, Nat.add_assoc]]
        exact hlo (nq + n)
      have c4' : W4.cell? ⟨b0, 4, none⟩ = some (.map (some bt)) := by rw [HW4]; exact c4
      have u0' : W4.cell? ⟨w2.heap.size, 0, none⟩ = some (.int .u64 client) := by rw [HW4]; exact u0
      have u1' : W4.cell? ⟨w2.heap.size, 1, none⟩ = some (.int .u64 seq) := by rw [HW4]; exact u1
      have HB4 : Hid (Below w.heap.size w W4) := Lib.hid (by rw [HW4]; exact below_drewN HBw.out _)
      rw [← HW4]
      clear HW4 hlk hlo c4 u0 u1
      go_quiet (fail)
      go_wp2_with fail
      go_ret
      have hBB := below_drewN HB4.out nq
      rw [HAE.out, HAF.out]
      exact ⟨rfl, D, ⟨b0, bs, bt, n, lv, rfl, H.out.below hBB (Nat.le_refl _), by omega⟩, Moved.of (Below.keep0 D hBB)⟩
    | none =>
      rw [ht] at hlk HAE HAF
      simp only [Option.map_none, Option.getD_none, Option.isSome_none] at hlk
      clear ht hlo
      go_wp2_with fail
      go_quiet (fail)
      go_wp2_with fail
      obtain ⟨W4, HW4⟩ : ∃ z, z = W3.drewN nq := ⟨_, rfl⟩
      have hk4 : W4.heap[w.heap.size]? = some (.cells #[.int .i64 op, .int .u64 client, .int .u64 seq, .int .i64 shard, .int .i64 segs, .int .u64 pos, .slice ao (List.length rs) cc] 46 (0, 0)) := by rw [HW4]; exact HK3.out
      have he4 : W4.heap[w2.heap.size]? = some (.cells #[.int .u64 client, .int .u64 seq] 91 (0, 0)) := by rw [HW4]; exact HE3.out
      have hb4 : Below w.heap.size w W4 := by rw [HW4]; exact below_drewN HBw.out _
      rw [← HW4]
      clear HW4 hlk c4 u0 u1
      have hR4 := H.out.below hb4 (Nat.le_refl _)
      have hq4 : w.heap.size < W4.heap.size := (Array.getElem?_eq_some_iff.1 hk4).1
      have hw4 : w2.heap.size < W4.heap.size := (Array.getElem?_eq_some_iff.1 he4).1
      have hDlt := H.out.lt
      have hS : ∀ (wx : World) (D' : Nat → Prop), Keep D W4 wx → wx.heap[w.heap.size]? = W4.heap[w.heap.size]? ∧ wx.heap[w2.heap.size]? = W4.heap[w2.heap.size]? := fun wx _ hk =>
        ⟨hk.block _ hq4 (fun hd => by have := hDlt _ hd; omega), hk.block _ hw4 (fun hd => by have := hDlt _ hd; omega)⟩
      have HDo := Lib.hid ((hR4.below (Below.refl _ _).drew (Nat.le_refl _)).doing (c := ⟨op, client, seq, shard, segs, pos, rs⟩) (HVk.out.below hb4.drew) hcb hu hpos hFl (by omega))
      obtain ⟨_, _, _, _, c4, _⟩ := hR4.cell
      have o0 : W4.cell? ⟨w.heap.size, 0, none⟩ = some (.int .i64 op) := World.news_of_block hk4 0 _ rfl
      have o1 : W4.cell? ⟨w.heap.size, 1, none⟩ = some (.int .u64 client) := World.news_of_block hk4 1 _ rfl
      have o2 : W4.cell? ⟨w.heap.size, 2, none⟩ = some (.int .u64 seq) := World.news_of_block hk4 2 _ rfl
      have o3 : W4.cell? ⟨w.heap.size, 3, none⟩ = some (.int .i64 shard) := World.news_of_block hk4 3 _ rfl
      have o4 : W4.cell? ⟨w.heap.size, 4, none⟩ = some (.int .i64 segs) := World.news_of_block hk4 4 _ rfl
      have o5 : W4.cell? ⟨w.heap.size, 5, none⟩ = some (.int .u64 pos) := World.news_of_block hk4 5 _ rfl
      have o6 : W4.cell? ⟨w.heap.size, 6, none⟩ = some (.slice ao (List.length rs) cc) := World.news_of_block hk4 6 _ rfl
      have u0 : W4.cell? ⟨w2.heap.size, 0, none⟩ = some (.int .u64 client) := World.news_of_block he4 0 _ rfl
      have u1 : W4.cell? ⟨w2.heap.size, 1, none⟩ = some (.int .u64 seq) := World.news_of_block he4 1 _ rfl
      have HH4 := Lib.hid (And.intro hk4 he4)
      have HR4 := Lib.hid hR4
      have HB4 := Lib.hid hb4
      have HS := Lib.hid hS
      clear hk4 he4 hb4 hS
      clear hR4
      go_region_held3 (fun w' => w'.cell? ⟨b0, 4, none⟩ = some (.map (some bt)) ∧ w'.cell? ⟨w.heap.size, 0, none⟩ = some (.int .i64 op) ∧ w'.cell? ⟨w.heap.size, 1, none⟩ = some (.int .u64 client) ∧ w'.cell? ⟨w.heap.size, 2, none⟩ = some (.int .u64 seq) ∧ w'.cell? ⟨w.heap.size, 3, none⟩ = some (.int .i64 shard) ∧ w'.cell? ⟨w.heap.size, 4, none⟩ = some (.int .i64 segs) ∧ w'.cell? ⟨w.heap.size, 5, none⟩ = some (.int .u64 pos) ∧ w'.cell? ⟨w.heap.size, 6, none⟩ = some (.slice ao (List.length rs) cc) ∧ w'.cell? ⟨w2.heap.size, 0, none⟩ = some (.int .u64 client) ∧ w'.cell? ⟨w2.heap.size, 1, none⟩ = some (.int .u64 seq)) (first | exact hS5 | exact hS6 | go_keep)
        (first
          | (go_at_call 46; (with_reducible refine HDo.out.mono ?_)
             rintro e w5 ⟨rfl, D', n', lv', hf5, hn5, hm5⟩
             obtain ⟨s1, s2⟩ := HS.out w5 D' ((Keep.refl D W4).drew.trans hm5.keep)
             have k5 := s1.trans HH4.out.1
             have e5 := s2.trans HH4.out.2
             obtain ⟨_, _, _, _, c5, _⟩ := hf5.cell
             have hS5 : w5.cell? ⟨b0, 4, none⟩ = some (.map (some bt)) ∧ w5.cell? ⟨w.heap.size, 0, none⟩ = some (.int .i64 op) ∧ w5.cell? ⟨w.heap.size, 1, none⟩ = some (.int .u64 client) ∧ w5.cell? ⟨w.heap.size, 2, none⟩ = some (.int .u64 seq) ∧ w5.cell? ⟨w.heap.size, 3, none⟩ = some (.int .i64 shard) ∧ w5.cell? ⟨w.heap.size, 4, none⟩ = some (.int .i64 segs) ∧ w5.cell? ⟨w.heap.size, 5, none⟩ = some (.int .u64 pos) ∧ w5.cell? ⟨w.heap.size, 6, none⟩ = some (.slice ao (List.length rs) cc) ∧ w5.cell? ⟨w2.heap.size, 0, none⟩ = some (.int .u64 client) ∧ w5.cell? ⟨w2.heap.size, 1, none⟩ = some (.int .u64 seq) :=
               ⟨c5, World.news_of_block k5 0 _ rfl, World.news_of_block k5 1 _ rfl, World.news_of_block k5 2 _ rfl, World.news_of_block k5 3 _ rfl, World.news_of_block k5 4 _ rfl, World.news_of_block k5 5 _ rfl, World.news_of_block k5 6 _ rfl, World.news_of_block e5 0 _ rfl, World.news_of_block e5 1 _ rfl⟩
             obtain ⟨w6, hrun, hf6, hk6, hg6⟩ := hf5.tell hcl.1 hcl.2 (doE F ⟨op, client, seq, shard, segs, pos, rs⟩) (by omega)
             have hbt := H.out.lt bt H.out.dt
             have hsz5 : W4.heap.size ≤ w5.heap.size := hm5.keep.size
             have k6 := (hk6.block w.heap.size (by omega) (by omega)).trans k5
             have e6 := (hk6.block w2.heap.size (by omega) (by omega)).trans e5
             obtain ⟨_, _, _, _, c6, _⟩ := hf6.cell
             have hS6 : w6.cell? ⟨b0, 4, none⟩ = some (.map (some bt)) ∧ w6.cell? ⟨w.heap.size, 0, none⟩ = some (.int .i64 op) ∧ w6.cell? ⟨w.heap.size, 1, none⟩ = some (.int .u64 client) ∧ w6.cell? ⟨w.heap.size, 2, none⟩ = some (.int .u64 seq) ∧ w6.cell? ⟨w.heap.size, 3, none⟩ = some (.int .i64 shard) ∧ w6.cell? ⟨w.heap.size, 4, none⟩ = some (.int .i64 segs) ∧ w6.cell? ⟨w.heap.size, 5, none⟩ = some (.int .u64 pos) ∧ w6.cell? ⟨w.heap.size, 6, none⟩ = some (.slice ao (List.length rs) cc) ∧ w6.cell? ⟨w2.heap.size, 0, none⟩ = some (.int .u64 client) ∧ w6.cell? ⟨w2.heap.size, 1, none⟩ = some (.int .u64 seq) :=
               ⟨c6, World.news_of_block k6 0 _ rfl, World.news_of_block k6 1 _ rfl, World.news_of_block k6 2 _ rfl, World.news_of_block k6 3 _ rfl, World.news_of_block k6 4 _ rfl, World.news_of_block k6 5 _ rfl, World.news_of_block k6 6 _ rfl, World.news_of_block e6 0 _ rfl, World.news_of_block e6 1 _ rfl⟩
             have HF6 := Lib.hid hf6
             have HK6 := Lib.hid hk6
             have HM5 := Lib.hid hm5
             clear hf5 hf6 hk6 hg6 hm5 s1 s2 k5 e5 c5 k6 e6 c6))
      obtain ⟨c6, _, _, _, _, _, _, _, v0, v1⟩ := hS6
      have hlo6 : ∀ n, (Instr.lookup 87 (.map (some bt)) (.agg #[.int .u64 client, .int .u64 seq]) false).run Try.prog (w6.drewN n) = .ok (.int .i64 (doE F ⟨op, client, seq, shard, segs, pos, rs⟩)) (w6.drewN n) := fun n => by
        obtain ⟨g, hg, hgv⟩ := HF6.out.told
        have := (hg.same (show (w6.drewN n).heap[bt]? = w6.heap[bt]? from rfl)).look whoKeyed Try.underlying87 (zeroErrno (w6.drewN n)) (wk_of hcl.1 hcl.2)
        rw [hgv] at this
        have h1 : (tellF (doF F ⟨op, client, seq, shard, segs, pos, rs⟩) client seq (doE F ⟨op, client, seq, shard, segs, pos, rs⟩)).told client seq = some (doE F ⟨op, client, seq, shard, segs, pos, rs⟩) := by
          unfold tellF; simp
        rw [h1] at this
        exact this
      clear hS5 hrun c4 o0 o1 o2 o3 o4 o5 o6 u0 u1
      go_wp2_with fail
      go_quiet (fail)
      go_wp2_with fail
      go_ret
      rw [HAE.out, HAF.out]
      have hmB : Moved D D w W4.drew := Moved.of (Below.keep0 D HB4.out.drew)
      have hm6 : Moved D D' w (w6.drewN nq) := (hmB.trans HM5.out).trans (Moved.of (HK6.out.mono (fun k _ e => by subst e; exact HF6.out.dt)) |>.trans (Moved.of (Below.keep0 D' (below_drewN (Below.refl _ _) nq))))
      exact ⟨rfl, D', ⟨b0, bs, bt, n' + 1, lv', rfl, HF6.out.below (below_drewN (Below.refl _ _) nq) (Nat.le_refl _), by omega⟩, hm6⟩
end Go.Proofs.Ytabanackdjlcmaa

namespace Go.Proofs.Ytabanackdjlcmaa
open Go.ChangeShapes Go.WideShapes Go.ChangeAt Go.RowKit Go.Maps
set_option maxRecDepth 100000

theorem FoldO.nobody {p : Value} {D : Nat → Prop} {w : World} {N : Nat} {F : FS} (h : FoldO p D w N F) {c : Cm} {v : Value} (hvk : RowsD D w v c.rows) (hcb : checkB c = true) (hu : ∀ r ∈ c.rows, U64 r.2) (hpos : 0 ≤ c.pos) (hno : c.client = 0 ∧ c.seq = 0) (hFl : F.l.length ≤ 1000000000) (hN : N ≤ 900000) :
    Calls Try.prog 25 #[p, cmV c v] w fun e w' => e = .returned (.int .i64 (applyE F c)) ∧ ∃ D', FoldO p D' w' (N + 10) (applyF F c) ∧ Moved D D' w w' := by
  obtain ⟨b0, bs, bt, n, lv, rfl, h2, h3⟩ := h
  have hv0 := hvk w (Keep.refl _ _)
  have hv2 : ∃ ao n c, v = .slice ao n c := by obtain ⟨ao, c, e, _⟩ := hv0; exact ⟨ao, _, c, e⟩
  have hAE : applyE F c = doE F c := by unfold applyE; rw [if_pos hcb, if_pos hno]
  have hAF : applyF F c = doF F c := by unfold applyF; rw [if_pos hcb, if_pos hno]
  rw [hAE, hAF]
  have hrl : c.rows.length ≤ 8 := by
    have := hcb
    unfold checkB checkA at this
    simp only [Bool.and_eq_true] at this
    exact rowsB_len this.1.1.2
  have he : checkE c = 0 := by unfold checkE; rw [if_pos hcb]
  obtain ⟨op, client, seq, shard, segs, pos, rs⟩ := c
  obtain ⟨rfl, rfl⟩ : client = 0 ∧ seq = 0 := hno
  refine (apply_nobody w b0 op shard segs pos v hv2 (Q := fun x w' => x = doE F ⟨op, 0, 0, shard, segs, pos, rs⟩ ∧ ∃ D', FoldO (.pointer (some ⟨b0, 0, none⟩)) D' w' (N + 10) (doF F ⟨op, 0, 0, shard, segs, pos, rs⟩) ∧ Moved D D' w w') (fun w1 hb1 => ?_) (fun w1 hb1 => ?_)).mono ?_
  · have := check_any (c := ⟨op, 0, 0, shard, segs, pos, rs⟩) (v := v) (hv0.below hb1 (Nat.le_refl _)) (by show rs.length ≤ _; simp only at hrl; omega)
    rw [he] at this
    exact this
  · refine ((h2.below hb1 (Nat.le_refl _)).doing (c := ⟨op, 0, 0, shard, segs, pos, rs⟩) (hvk.below hb1) hcb hu hpos hFl (by omega)).mono ?_
    rintro e w' ⟨rfl, D', n', lv', hf, hn', hm⟩
    exact ⟨_, rfl, rfl, D', ⟨b0, bs, bt, n', lv', rfl, hf, by omega⟩, (Moved.of (Below.keep0 D hb1)).trans hm⟩
  · rintro e w' ⟨x, rfl, rfl, hh⟩
    exact ⟨rfl, hh⟩
/-- A command as it comes: what numbers it may bear. -/
structure CmOk (c : Cm) : Prop where
  client : Nat64 c.client
  seq : Nat64 c.seq
  pos : Nat64 c.pos
  rows : ∀ r ∈ c.rows, U64 r.2
theorem FoldO.apply {p : Value} {D : Nat → Prop} {w : World} {N : Nat} {F : FS} (h : FoldO p D w N F) {c : Cm} {v : Value} (hvk : RowsD D w v c.rows) (hl : c.rows.length ≤ 1000000) (hc : CmOk c) (hFl : F.l.length ≤ 1000000000) (hN : N ≤ 900000) :
    Calls Try.prog 25 #[p, cmV c v] w fun e w' => e = .returned (.int .i64 (applyE F c)) ∧ ∃ D', FoldO p D' w' (N + 10) (applyF F c) ∧ Moved D D' w w' := by
  cases hcb : checkB c with
  | false =>
    obtain ⟨b0, bs, bt, n, lv, rfl, h2, h3⟩ := h
    refine (apply_no w b0 (hvk w (Keep.refl _ _)) hl hcb).mono ?_
    rintro e w' ⟨rfl, hb⟩
    have hAE : applyE F c = 1 := by unfold applyE; rw [if_neg (by rw [hcb]; decide)]
    have hAF : applyF F c = F := by unfold applyF; rw [if_neg (by rw [hcb]; decide)]
    rw [hAE, hAF]
    exact ⟨rfl, D, ⟨b0, bs, bt, n, lv, rfl, h2.below hb (Nat.le_refl _), by omega⟩, Moved.of (Below.keep0 D hb)⟩
  | true =>
    by_cases hno : c.client = 0 ∧ c.seq = 0
    · exact h.nobody hvk hcb hc.rows hc.pos.1 hno hFl hN
    · exact h.tells hvk hcb hc.rows hc.pos.1 ⟨hc.client, hc.seq⟩ hno hFl hN
/-- The same of a state that the call has made; the rows are another's. -/
theorem FoldW.apply {W w0 w : World} {p : Value} {N : Nat} {F : FS} (h : FoldW W p w0 N F) (hb : Below w0.heap.size w0 w) {c : Cm} {v : Value} (hv : RowsD (fun k => k < w0.heap.size) w v c.rows) (hl : c.rows.length ≤ 1000000) (hc : CmOk c) (hFl : F.l.length ≤ 1000000000) (hN : N ≤ 900000) :
    Calls Try.prog 25 #[p, cmV c v] w fun e w' => e = .returned (.int .i64 (applyE F c)) ∧ FoldW W p w' (N + 10) (applyF F c) := by
  have hs := h.step hb
  obtain ⟨D, h1, h2, h3⟩ := h
  exact ((h1.step hb).apply (hv.sub h1.lt) hl hc hFl hN).mono fun e w' ⟨g1, D', g2, g3⟩ => ⟨g1, FoldW.moved h2 hs.below g2 g3⟩
end Go.Proofs.Ytabanackdjlcmaa
