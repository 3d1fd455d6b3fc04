/-
  Package fold: add and trim, whatever the command's empty rows are; what 'do' comes to.
-/
import Derived.Test.YtabanackdjlcmaaFoldV
import Derived.Test.YtabanackdjlcmaaConf8
namespace Go.Proofs.Ytabanackdjlcmaa
open Go.ChangeShapes Go.WideShapes Go.ChangeAt Go.RowKit Go.Maps
set_option maxRecDepth 100000

set_option maxHeartbeats 1000000 in
theorem trim_later2 {D : Nat → Prop} {w : World} {b0 bs bt N : Nat} {lv v : Value} {F : FS} (h : FoldR w D b0 bs bt N lv F) {op client seq shard segs pos : Int} (hp : F.n < pos) {vo : Option Addr} {vn vc : Nat} (hv : v = .slice vo vn vc) :
    Calls Try.prog 63 #[.pointer (some ⟨b0, 0, none⟩), .agg #[.int .i64 op, .int .u64 client, .int .u64 seq, .int .i64 shard, .int .i64 segs, .int .u64 pos, v]] w fun e w' => e = .returned (.int .i64 36) ∧ Below w.heap.size w w' := by
  subst hv
  obtain ⟨c0, c1, c2, c3, c4, z1, z2, z3⟩ := h.cell
  have hb := ((Below.refl w.heap.size w).alloc (Nat.le_refl _) (.cells #[.int .i64 op, .int .u64 client, .int .u64 seq, .int .i64 shard, .int .i64 segs, .int .u64 pos, .slice vo vn vc] 46))
  have d2 := (hb.cell (p := ⟨b0, 2, none⟩) h.heap).trans c2
  have hd : decide (F.n < pos) = true := decide_eq_true hp
  clear h
  go_enter Try.func63, Try.ntmps63
  go_wp2
  go_quiet (fail)
  go_wp2
  go_ret
  exact ⟨rfl, below_drewN hb _⟩
set_option maxHeartbeats 1000000 in
theorem trim_ok2 {D : Nat → Prop} {w : World} {b0 bs bt N : Nat} {lv v : Value} {F : FS} (h : FoldR w D b0 bs bt N lv F) {op client seq shard segs pos : Int} (hp0 : 0 ≤ pos) (hp : pos ≤ F.n) {vo : Option Addr} {vn vc : Nat} (hv : v = .slice vo vn vc) :
    Calls Try.prog 63 #[.pointer (some ⟨b0, 0, none⟩), .agg #[.int .i64 op, .int .u64 client, .int .u64 seq, .int .i64 shard, .int .i64 segs, .int .u64 pos, v]] w fun e w' => e = .returned (.int .i64 0) ∧ FoldR w' D b0 bs bt N lv (trimF F pos) ∧ Keep (fun k => k = b0) w w' := by
  subst hv
  have H := Lib.hid h
  obtain ⟨c0, c1, c2, c3, c4, z1, z2, z3⟩ := h.cell
  have hb := ((Below.refl w.heap.size w).alloc (Nat.le_refl _) (.cells #[.int .i64 op, .int .u64 client, .int .u64 seq, .int .i64 shard, .int .i64 segs, .int .u64 pos, .slice vo vn vc] 46))
  have hR := H.out.below hb (Nat.le_refl _)
  obtain ⟨e0, e1, d2, d3, e4, y1, y2, y3⟩ := hR.cell
  have HR := Lib.hid hR
  have HB := Lib.hid hb
  have hd : decide (F.n < pos) = false := decide_eq_false (by omega)
  have hnum := h.num
  have hb0 := h.heap
  clear h hR hb c0 c1 c2 c3 c4 z1 z2 z3 e0 e1 e4 y1 y2
  obtain ⟨T, hT, hTc⟩ : ∃ T, T = max F.low pos ∧ ((F.low < pos ∧ T = pos) ∨ (pos ≤ F.low ∧ T = F.low)) := ⟨_, rfl, by omega⟩
  have hF : trimF F pos = { F with low := T } := by unfold trimF; rw [hT]
  have HF := Lib.hid hF
  have HT : Hid (0 ≤ T ∧ T ≤ F.n) := Lib.hid (by omega)
  clear hT hF hnum
  rcases hTc with ⟨hT1, hT2⟩ | ⟨hT1, hT2⟩
  all_goals
    subst hT2
    go_enter Try.func63, Try.ntmps63
    go_wp2
    go_quiet (fail)
    go_wp2
    go_region
    go_wp2
    go_ret
    refine ⟨rfl, ?_, ?_⟩
    · rw [HF.out]
      exact ((HR.out.below (below_drewN (Below.refl _ _) _) (Nat.le_refl _)).below ((Below.refl _ _).drew) (Nat.le_refl _)).setLow _ HT.out.1 HT.out.2
    · exact ((((Below.keep0 (fun k => k = b0) HB.out).drewN _).drew).setCell (p := ⟨b0, 3, none⟩) (Or.inl rfl) _)
set_option maxHeartbeats 1000000 in
theorem add_twice2 {D : Nat → Prop} {w : World} {b0 bs bt N : Nat} {lv v : Value} {F : FS} (h : FoldR w D b0 bs bt N lv F) {op client seq shard segs pos : Int} (hi : IdOk shard) {s : Sh} (hs : F.sh shard = some s) {vo : Option Addr} {vn vc : Nat} (hv : v = .slice vo vn vc) :
    Calls Try.prog 61 #[.pointer (some ⟨b0, 0, none⟩), .agg #[.int .i64 op, .int .u64 client, .int .u64 seq, .int .i64 shard, .int .i64 segs, .int .u64 pos, v]] w fun e w' => e = .returned (.int .i64 31) ∧ Below w.heap.size w w' := by
  subst hv
  have hb := ((Below.refl w.heap.size w).alloc (Nat.le_refl _) (.cells #[.int .i64 op, .int .u64 client, .int .u64 seq, .int .i64 shard, .int .i64 segs, .int .u64 pos, .slice vo vn vc] 46)).drew
  have hR := h.below hb (Nat.le_refl _)
  obtain ⟨c0, _⟩ := hR.cell
  obtain ⟨f, so, sc, hf, hval, hsl, hs1, hs2, ho⟩ := hR.shAt hi hs
  have hl := fun (w' : World) (hb' : Below (w.alloc (.cells #[.int .i64 op, .int .u64 client, .int .u64 seq, .int .i64 shard, .int .i64 segs, .int .u64 pos, .slice vo vn vc] 46)).heap.size (w.alloc (.cells #[.int .i64 op, .int .u64 client, .int .u64 seq, .int .i64 shard, .int .i64 segs, .int .u64 pos, .slice vo vn vc] 46)) w') => shlook_two (hf.same (hb'.block bs hf.lt)) hi
  rw [hval] at hl
  simp only [shLook, Option.getD_some, Option.isSome_some] at hl
  have x3 : (w.alloc (.cells #[.int .i64 op, .int .u64 client, .int .u64 seq, .int .i64 shard, .int .i64 segs, .int .u64 pos, .slice vo vn vc] 46)).cell? ⟨w.heap.size, 3, none⟩ = some (.int .i64 shard) := World.news_of_block (heap_alloc_new w _) 3 _ rfl
  have hbl : b0 < w.heap.size := h.heap
  have hbl2 : b0 < (w.alloc (.cells #[.int .i64 op, .int .u64 client, .int .u64 seq, .int .i64 shard, .int .i64 segs, .int .u64 pos, .slice vo vn vc] 46)).heap.size := by simp; omega
  have hcT : ∀ w' : World, Below (w.alloc (.cells #[.int .i64 op, .int .u64 client, .int .u64 seq, .int .i64 shard, .int .i64 segs, .int .u64 pos, .slice vo vn vc] 46)).heap.size (w.alloc (.cells #[.int .i64 op, .int .u64 client, .int .u64 seq, .int .i64 shard, .int .i64 segs, .int .u64 pos, .slice vo vn vc] 46)) w' → (w'.cell? ⟨b0, 0, none⟩ = some (.map (some bs)) ∧ w'.cell? ⟨w.heap.size, 3, none⟩ = some (.int .i64 shard) ∧ (Instr.lookup 86 (.map (some bs)) (.int .i64 shard) true).run Try.prog w' = .ok (.tuple #[.agg #[.int .i64 s.id, .int .i64 s.segs, .slice so s.lens.length sc, .bool s.fin], .bool true]) w') :=
    fun w' hb' => ⟨(hb'.cell (p := ⟨b0, 0, none⟩) hbl2).trans c0, (hb'.cell (p := ⟨w.heap.size, 3, none⟩) (by simp)).trans x3, hl w' hb'⟩
  have hcS := hcT _ (Below.refl _ (w.alloc (.cells #[.int .i64 op, .int .u64 client, .int .u64 seq, .int .i64 shard, .int .i64 segs, .int .u64 pos, .slice vo vn vc] 46))).drew
  have hcU := fun (o : Obj) => hcT _ (((Below.refl _ (w.alloc (.cells #[.int .i64 op, .int .u64 client, .int .u64 seq, .int .i64 shard, .int .i64 segs, .int .u64 pos, .slice vo vn vc] 46))).alloc (Nat.le_refl _) o).drew)
  have HB := Lib.hid hb
  clear hval hs hsl ho h hR hb hl hcT c0
  go_enter Try.func61, Try.ntmps61
  go_wp2
  go_region_held3 (fun w' => w'.cell? ⟨b0, 0, none⟩ = some (.map (some bs)) ∧ w'.cell? ⟨w.heap.size, 3, none⟩ = some (.int .i64 shard) ∧ (Instr.lookup 86 (.map (some bs)) (.int .i64 shard) true).run Try.prog w' = .ok (.tuple #[.agg #[.int .i64 s.id, .int .i64 s.segs, .slice so s.lens.length sc, .bool s.fin], .bool true]) w') (first | exact hcS | exact hcU _ | go_keep) (fail)
  all_goals
    go_wp2
    go_ret
    refine ⟨rfl, ?_⟩
    first
      | exact HB.out
      | exact (((Below.refl w.heap.size w).alloc (Nat.le_refl _) _).alloc (by simp) _).drew
      | exact (((Below.refl w.heap.size w).alloc (Nat.le_refl _) _).drew.alloc (by simp [World.drew]) _)

set_option maxHeartbeats 1000000 in
theorem add_new2 {D : Nat → Prop} {w : World} {b0 bs bt N : Nat} {lv v : Value} {F : FS} (h : FoldR w D b0 bs bt N lv F) {op client seq shard pos : Int} {sg : Nat} (hi : IdOk shard) (hs1 : 1 ≤ sg) (hs4 : sg ≤ 4) (hN : N < 1000000) (hs : F.sh shard = none) {vo : Option Addr} {vn vc : Nat} (hv : v = .slice vo vn vc) :
    Calls Try.prog 61 #[.pointer (some ⟨b0, 0, none⟩), .agg #[.int .i64 op, .int .u64 client, .int .u64 seq, .int .i64 shard, .int .i64 (sg : Int), .int .u64 pos, v]] w fun e w' => e = .returned (.int .i64 0) ∧ FoldR w' D b0 bs bt (N + 1) lv (putS F shard ⟨shard, sg, [], false⟩) ∧ Keep (fun k => k = bs) w w' := by
  subst hv
  have H := Lib.hid h
  have hb := ((Below.refl w.heap.size w).alloc (Nat.le_refl _) (.cells #[.int .i64 op, .int .u64 client, .int .u64 seq, .int .i64 shard, .int .i64 (sg : Int), .int .u64 pos, .slice vo vn vc] 46))
  have hR := h.below hb (Nat.le_refl _)
  obtain ⟨c0, _⟩ := hR.cell
  obtain ⟨f, hf, hvals, hvx⟩ := hR.sh
  have hval := hvals shard hi
  rw [hs] at hval
  simp only [ShV] at hval
  have hl := fun (w' : World) (hb' : Below (w.alloc (.cells #[.int .i64 op, .int .u64 client, .int .u64 seq, .int .i64 shard, .int .i64 (sg : Int), .int .u64 pos, .slice vo vn vc] 46)).heap.size (w.alloc (.cells #[.int .i64 op, .int .u64 client, .int .u64 seq, .int .i64 shard, .int .i64 (sg : Int), .int .u64 pos, .slice vo vn vc] 46)) w') => shlook_two (hf.same (hb'.block bs hf.lt)) hi
  rw [hval] at hl
  simp only [shLook, Option.getD_none, Option.isSome_none, zeroSh] at hl
  have x3 : (w.alloc (.cells #[.int .i64 op, .int .u64 client, .int .u64 seq, .int .i64 shard, .int .i64 (sg : Int), .int .u64 pos, .slice vo vn vc] 46)).cell? ⟨w.heap.size, 3, none⟩ = some (.int .i64 shard) := World.news_of_block (heap_alloc_new w _) 3 _ rfl
  have x4 : (w.alloc (.cells #[.int .i64 op, .int .u64 client, .int .u64 seq, .int .i64 shard, .int .i64 (sg : Int), .int .u64 pos, .slice vo vn vc] 46)).cell? ⟨w.heap.size, 4, none⟩ = some (.int .i64 (sg : Int)) := World.news_of_block (heap_alloc_new w _) 4 _ rfl
  have hbl : b0 < w.heap.size := h.heap
  have hbl2 : b0 < (w.alloc (.cells #[.int .i64 op, .int .u64 client, .int .u64 seq, .int .i64 shard, .int .i64 (sg : Int), .int .u64 pos, .slice vo vn vc] 46)).heap.size := by simp; omega
  have hcT : ∀ w' : World, Below (w.alloc (.cells #[.int .i64 op, .int .u64 client, .int .u64 seq, .int .i64 shard, .int .i64 (sg : Int), .int .u64 pos, .slice vo vn vc] 46)).heap.size (w.alloc (.cells #[.int .i64 op, .int .u64 client, .int .u64 seq, .int .i64 shard, .int .i64 (sg : Int), .int .u64 pos, .slice vo vn vc] 46)) w' → (w'.cell? ⟨b0, 0, none⟩ = some (.map (some bs)) ∧ w'.cell? ⟨w.heap.size, 3, none⟩ = some (.int .i64 shard) ∧ w'.cell? ⟨w.heap.size, 4, none⟩ = some (.int .i64 (sg : Int)) ∧ (Instr.lookup 86 (.map (some bs)) (.int .i64 shard) true).run Try.prog w' = .ok (.tuple #[.agg #[.int .i64 0, .int .i64 0, .slice none 0 0, .bool false], .bool false]) w') :=
    fun w' hb' => ⟨(hb'.cell (p := ⟨b0, 0, none⟩) hbl2).trans c0, (hb'.cell (p := ⟨w.heap.size, 3, none⟩) (by simp)).trans x3, (hb'.cell (p := ⟨w.heap.size, 4, none⟩) (by simp)).trans x4, hl w' hb'⟩
  have hcS := hcT _ (Below.refl _ (w.alloc (.cells #[.int .i64 op, .int .u64 client, .int .u64 seq, .int .i64 shard, .int .i64 (sg : Int), .int .u64 pos, .slice vo vn vc] 46))).drew
  have hcU := fun (o : Obj) => hcT _ (((Below.refl _ (w.alloc (.cells #[.int .i64 op, .int .u64 client, .int .u64 seq, .int .i64 shard, .int .i64 (sg : Int), .int .u64 pos, .slice vo vn vc] 46))).alloc (Nat.le_refl _) o).drew)
  have HT := Lib.hid hcT
  have HB := Lib.hid hb
  have HR := Lib.hid hR
  have hst : ∀ w1 : World, Below (w.alloc (.cells #[.int .i64 op, .int .u64 client, .int .u64 seq, .int .i64 shard, .int .i64 (sg : Int), .int .u64 pos, .slice vo vn vc] 46)).heap.size (w.alloc (.cells #[.int .i64 op, .int .u64 client, .int .u64 seq, .int .i64 shard, .int .i64 (sg : Int), .int .u64 pos, .slice vo vn vc] 46)) w1 → ∃ w2, (Instr.mapUpdate 86 (.map (some bs)) (.int .i64 shard) (.agg #[.int .i64 shard, .int .i64 (sg : Int), .slice none 0 0, .bool false])).run Try.prog w1 = .ok () w2 ∧ FoldR w2 D b0 bs bt (N + 1) lv (putS F shard ⟨shard, sg, [], false⟩) ∧ Keep (fun k => k = bs) w w2 ∧ w1.grownBy w2 (some bs) := by
    intro w1 hb1
    obtain ⟨w2, g1, g2, g3⟩ := (hf.same (hb1.block bs hf.lt)).store idKeyed Try.underlying86 (by unfold maxLen; omega) (val := .agg #[.int .i64 shard, .int .i64 (sg : Int), .slice none 0 0, .bool false]) (id_key hi) (by trivial)
    have h1 := hR.below hb1 (Nat.le_refl _)
    refine ⟨w2, g1, h1.putSh hi (s := ⟨shard, sg, [], false⟩) (sv := .slice none 0 0) g3 (fun a ha => (hvals a ha).keep (Below.keep0 (fun _ => False) hb1) (fun k hk => hk.elim) (fun _ h => h)) hvx g2 (SlR.nil _) (by intro k hk; cases hk) ⟨by simp, hs1, hs4, rfl, by intro x hx; cases hx⟩, ?_, g3⟩
    exact ((Below.keep0 (fun k => k = bs) hb).trans (Below.keep0 _ hb1)).trans (Keep.grown g3 (fun k hk => by cases hk; rfl))
  have HSt := Lib.hid hst
  clear hval hs h hR hb hl hcT c0 hst hvals hf x3 x4
  go_enter Try.func61, Try.ntmps61
  go_wp2
  go_region_held3 (fun w' => w'.cell? ⟨b0, 0, none⟩ = some (.map (some bs)) ∧ w'.cell? ⟨w.heap.size, 3, none⟩ = some (.int .i64 shard) ∧ w'.cell? ⟨w.heap.size, 4, none⟩ = some (.int .i64 (sg : Int)) ∧ (Instr.lookup 86 (.map (some bs)) (.int .i64 shard) true).run Try.prog w' = .ok (.tuple #[.agg #[.int .i64 0, .int .i64 0, .slice none 0 0, .bool false], .bool false]) w') (first | exact hcS | exact hcU _ | go_keep) (fail)
  all_goals
    go_wp2_with fail
    have hB2 := ((Below.refl _ (w.alloc (.cells #[.int .i64 op, .int .u64 client, .int .u64 seq, .int .i64 shard, .int .i64 (sg : Int), .int .u64 pos, .slice vo vn vc] 46))).alloc (Nat.le_refl _) (.cells #[.int .i64 0, .int .i64 0, .slice none 0 0, .bool false] 35)).drew
    obtain ⟨s0, s1, s2, _⟩ := HT.out _ hB2.drew
    obtain ⟨w2, hrun, hf2, hk2, hg2⟩ := HSt.out _ hB2.drew
    have hne := H.out.ne
    have hds := H.out.lt _ H.out.ds
    have u0 := hf2.cell.1
    have hsz : w.heap.size < (w.alloc (.cells #[.int .i64 op, .int .u64 client, .int .u64 seq, .int .i64 shard, .int .i64 (sg : Int), .int .u64 pos, .slice vo vn vc] 46)).heap.size := by simp
    have u1 : w2.cell? ⟨w.heap.size, 3, none⟩ = some (.int .i64 shard) ∧ w2.cell? ⟨w.heap.size, 4, none⟩ = some (.int .i64 (sg : Int)) := by
      exact ⟨hg2.cell s1 (by simp; omega), hg2.cell s2 (by simp; omega)⟩
    have hcX := And.intro u0 u1
    have hcY := And.intro s0 (And.intro s1 s2)
    have HF2 := Lib.hid hf2
    have HK2 := Lib.hid hk2
    clear hf2 hk2 u0 u1 hg2
    go_region_held3 (fun w' => w'.cell? ⟨b0, 0, none⟩ = some (.map (some bs)) ∧ w'.cell? ⟨w.heap.size, 3, none⟩ = some (.int .i64 shard) ∧ w'.cell? ⟨w.heap.size, 4, none⟩ = some (.int .i64 (sg : Int))) (first | exact hcY | exact hcX | go_keep) (fail)
    go_wp2
    go_ret
    exact ⟨rfl, HF2.out, HK2.out⟩
/-- What a command that may be comes to. -/
def doE (F : FS) (c : Cm) : Int := if c.op = 1 then addE F c.shard else if c.op = 2 then sealE F c.shard c.rows else if c.op = 3 then trimE F c.pos else if c.op = 4 then cutE F c.rows else 0
def doF (F : FS) (c : Cm) : FS := if c.op = 1 then addR F c.shard c.segs.toNat else if c.op = 2 then sealR F c.shard c.rows else if c.op = 3 then trimR F c.pos else if c.op = 4 then cutR F c.rows else F
end Go.Proofs.Ytabanackdjlcmaa
