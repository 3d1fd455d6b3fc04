/-
  Contracts of package fold: a shard is put; add.
-/
import Derived.Test.YtabanackdjlcmaaFold2
namespace Go.Proofs.Ytabanackdjlcmaa
open Go.ChangeShapes Go.WideShapes Go.ChangeAt Go.RowKit Go.Maps
set_option maxRecDepth 100000

def putS (F : FS) (id : Int) (s : Sh) : FS := { F with sh := fun a => if a = id then some s else F.sh a }
theorem FoldR.mono {D : Nat → Prop} {w : World} {b0 bs bt N M : Nat} {lv : Value} {F : FS} (h : FoldR w D b0 bs bt N lv F) (hm : N ≤ M) : FoldR w D b0 bs bt M lv F := by
  obtain ⟨h1, h2, h3, h4, h5, h6, h7, h8, ⟨f, hf, hv, hvx⟩, ⟨g, hg, hgv⟩, h11, h12⟩ := h
  exact ⟨h1, h2, h3, h4, h5, h6, h7, h8, ⟨f, hf.mono hm, hv, hvx⟩, ⟨g, hg.mono hm, hgv⟩, h11, h12⟩
/-- More blocks are the state's. -/
theorem FoldR.wider {D D' : Nat → Prop} {w : World} {b0 bs bt N : Nat} {lv : Value} {F : FS} (h : FoldR w D b0 bs bt N lv F) (hD : ∀ k, D k → D' k) (hlt : ∀ k, D' k → k < w.heap.size) : FoldR w D' b0 bs bt N lv F := by
  obtain ⟨h1, h2, h3, h4, h5, h6, h7, h8, ⟨f, hf, hv, hvx⟩, ⟨g, hg, hgv⟩, h11, h12⟩ := h
  refine ⟨h1, hlt, hD _ h3, hD _ h4, hD _ h5, fun k hk => ⟨hD _ (h6 k hk).1, (h6 k hk).2⟩, h7, h8, ⟨f, hf, (fun a ha => ?_), hvx⟩, ⟨g, hg, hgv⟩, h11, h12⟩
  exact (hv a ha).keep (Keep.refl (fun _ => False) w) (fun k hk => hk.elim) hD
/-- Behind the store of a shard. -/
theorem FoldR.putSh {D : Nat → Prop} {w w' : World} {b0 bs bt N : Nat} {lv sv : Value} {F : FS} (h : FoldR w D b0 bs bt N lv F) {id : Int} (hi : IdOk id) {s : Sh} (hg : w.grownBy w' (some bs)) {f : Lit → Option Value}
    (hf : ∀ a : Int, IdOk a → ShV w D b0 bs bt lv (f (.int .i64 a)) (F.sh a)) (hfx : ∀ kl, (f kl).isSome = true → ∃ a : Int, IdOk a ∧ kl = .int .i64 a)
    (hm : MapR w' Try.prog 3 bs (N + 1) (putF f (.int .i64 id) (.agg #[.int .i64 s.id, .int .i64 s.segs, sv, .bool s.fin]))) (hsv : SlR w' sv (u64s s.lens)) (hD : ∀ k, sv.ownBlock = some k → D k ∧ k ≠ b0 ∧ k ≠ bs ∧ k ≠ bt ∧ lv.ownBlock ≠ some k)
    (hsm : s.lens.length ≤ 4 ∧ 1 ≤ s.segs ∧ s.segs ≤ 4 ∧ s.id = id ∧ U64 s.lens) : FoldR w' D b0 bs bt (N + 1) lv (putS F id s) := by
  have hk : Keep (fun k => k = bs) w w' := Keep.grown hg (fun k hk => by cases hk; rfl)
  obtain ⟨h1, h2, h3, h4, h5, h6, h7, h8, _, ⟨g, hg2, hgv⟩, h11, h12⟩ := h
  refine ⟨(hk.block b0 (h2 _ h3) (fun e => h7.1 e.symm)).trans h1, fun k hd => Nat.lt_of_lt_of_le (h2 k hd) hk.size, h3, h4, h5, h6, h7, own_keep h8 (fun b hb => hk.block b (h2 b (h6 b hb).1) (h6 b hb).2.2.1), ⟨_, hm, (fun a ha => ?_), fun kl hkl => ?_⟩, ⟨g, (hg2.keep hk (fun e => h7.2.2 e.symm)).mono (Nat.le_succ _), hgv⟩, h11, fun a x hx => ?_⟩
  · rw [putF_int]
    unfold putS
    by_cases e : a = id
    · subst e
      rw [if_pos rfl]
      simp only [if_true]
      exact ⟨sv, rfl, hsv, hD⟩
    · rw [if_neg e]
      simp only [if_neg e]
      exact (hf a ha).keep hk (fun k hs _ => Or.inr (Or.inl hs)) (fun _ h => h)
  · unfold putF at hkl
    by_cases e : kl = .int .i64 id
    · exact ⟨id, hi, e⟩
    · rw [if_neg e] at hkl; exact hfx kl hkl
  · unfold putS at hx
    simp only at hx
    by_cases e : a = id
    · subst e; rw [if_pos rfl] at hx; cases hx; exact hsm
    · rw [if_neg e] at hx; exact h12 a x hx

set_option maxHeartbeats 1000000 in
theorem add_twice {D : Nat → Prop} {w : World} {b0 bs bt N : Nat} {lv v : Value} {F : FS} (h : FoldR w D b0 bs bt N lv F) {op client seq shard segs pos : Int} (hi : IdOk shard) {s : Sh} (hs : F.sh shard = some s) (hv : v = .slice none 0 0) :
    Calls Try.prog 61 #[.pointer (some ⟨b0, 0, none⟩), .agg #[.int .i64 op, .int .u64 client, .int .u64 seq, .int .i64 shard, .int .i64 segs, .int .u64 pos, v]] w fun e w' => e = .returned (.int .i64 31) ∧ Below w.heap.size w w' := by
  subst hv
  have hb := ((Below.refl w.heap.size w).alloc (Nat.le_refl _) (.cells #[.int .i64 op, .int .u64 client, .int .u64 seq, .int .i64 shard, .int .i64 segs, .int .u64 pos, .slice none 0 0] 46)).drew
  have hR := h.below hb (Nat.le_refl _)
  obtain ⟨c0, _⟩ := hR.cell
  obtain ⟨f, so, sc, hf, hval, hsl, hs1, hs2, ho⟩ := hR.shAt hi hs
  have hl := fun (w' : World) (hb' : Below (w.alloc (.cells #[.int .i64 op, .int .u64 client, .int .u64 seq, .int .i64 shard, .int .i64 segs, .int .u64 pos, .slice none 0 0] 46)).heap.size (w.alloc (.cells #[.int .i64 op, .int .u64 client, .int .u64 seq, .int .i64 shard, .int .i64 segs, .int .u64 pos, .slice none 0 0] 46)) w') => shlook_two (hf.same (hb'.block bs hf.lt)) hi
  rw [hval] at hl
  simp only [shLook, Option.getD_some, Option.isSome_some] at hl
  have x3 : (w.alloc (.cells #[.int .i64 op, .int .u64 client, .int .u64 seq, .int .i64 shard, .int .i64 segs, .int .u64 pos, .slice none 0 0] 46)).cell? ⟨w.heap.size, 3, none⟩ = some (.int .i64 shard) := World.news_of_block (heap_alloc_new w _) 3 _ rfl
  have hbl : b0 < w.heap.size := h.heap
  have hbl2 : b0 < (w.alloc (.cells #[.int .i64 op, .int .u64 client, .int .u64 seq, .int .i64 shard, .int .i64 segs, .int .u64 pos, .slice none 0 0] 46)).heap.size := by simp; omega
  have hcT : ∀ w' : World, Below (w.alloc (.cells #[.int .i64 op, .int .u64 client, .int .u64 seq, .int .i64 shard, .int .i64 segs, .int .u64 pos, .slice none 0 0] 46)).heap.size (w.alloc (.cells #[.int .i64 op, .int .u64 client, .int .u64 seq, .int .i64 shard, .int .i64 segs, .int .u64 pos, .slice none 0 0] 46)) w' → (w'.cell? ⟨b0, 0, none⟩ = some (.map (some bs)) ∧ w'.cell? ⟨w.heap.size, 3, none⟩ = some (.int .i64 shard) ∧ (Instr.lookup 86 (.map (some bs)) (.int .i64 shard) true).run Try.prog w' = .ok (.tuple #[.agg #[.int .i64 s.id, .int .i64 s.segs, .slice so s.lens.length sc, .bool s.fin], .bool true]) w') :=
    fun w' hb' => ⟨(hb'.cell (p := ⟨b0, 0, none⟩) hbl2).trans c0, (hb'.cell (p := ⟨w.heap.size, 3, none⟩) (by simp)).trans x3, hl w' hb'⟩
  have hcS := hcT _ (Below.refl _ (w.alloc (.cells #[.int .i64 op, .int .u64 client, .int .u64 seq, .int .i64 shard, .int .i64 segs, .int .u64 pos, .slice none 0 0] 46))).drew
  have hcU := fun (o : Obj) => hcT _ (((Below.refl _ (w.alloc (.cells #[.int .i64 op, .int .u64 client, .int .u64 seq, .int .i64 shard, .int .i64 segs, .int .u64 pos, .slice none 0 0] 46))).alloc (Nat.le_refl _) o).drew)
  have HB := Lib.hid hb
  clear hval hs hsl ho h hR hb hl hcT c0
  go_enter Try.func61, Try.ntmps61
  go_wp2
  go_region_held3 (fun w' => w'.cell? ⟨b0, 0, none⟩ = some (.map (some bs)) ∧ w'.cell? ⟨w.heap.size, 3, none⟩ = some (.int .i64 shard) ∧ (Instr.lookup 86 (.map (some bs)) (.int .i64 shard) true).run Try.prog w' = .ok (.tuple #[.agg #[.int .i64 s.id, .int .i64 s.segs, .slice so s.lens.length sc, .bool s.fin], .bool true]) w') (first | exact hcS | exact hcU _ | go_keep) (fail)
  all_goals
    go_wp2
    go_ret
    refine ⟨rfl, ?_⟩
    first
      | exact HB.out
      | exact (((Below.refl w.heap.size w).alloc (Nat.le_refl _) _).alloc (by simp) _).drew
      | exact (((Below.refl w.heap.size w).alloc (Nat.le_refl _) _).drew.alloc (by simp [World.drew]) _)

set_option maxHeartbeats 1000000 in
theorem add_new {D : Nat → Prop} {w : World} {b0 bs bt N : Nat} {lv v : Value} {F : FS} (h : FoldR w D b0 bs bt N lv F) {op client seq shard pos : Int} {sg : Nat} (hi : IdOk shard) (hs1 : 1 ≤ sg) (hs4 : sg ≤ 4) (hN : N < 1000000) (hs : F.sh shard = none) (hv : v = .slice none 0 0) :
    Calls Try.prog 61 #[.pointer (some ⟨b0, 0, none⟩), .agg #[.int .i64 op, .int .u64 client, .int .u64 seq, .int .i64 shard, .int .i64 (sg : Int), .int .u64 pos, v]] w fun e w' => e = .returned (.int .i64 0) ∧ FoldR w' D b0 bs bt (N + 1) lv (putS F shard ⟨shard, sg, [], false⟩) ∧ Keep (fun k => k = bs) w w' := by
  subst hv
  have H := Lib.hid h
  have hb := ((Below.refl w.heap.size w).alloc (Nat.le_refl _) (.cells #[.int .i64 op, .int .u64 client, .int .u64 seq, .int .i64 shard, .int .i64 (sg : Int), .int .u64 pos, .slice none 0 0] 46))
  have hR := h.below hb (Nat.le_refl _)
  obtain ⟨c0, _⟩ := hR.cell
  obtain ⟨f, hf, hvals, hvx⟩ := hR.sh
  have hval := hvals shard hi
  rw [hs] at hval
  simp only [ShV] at hval
  have hl := fun (w' : World) (hb' : Below (w.alloc (.cells #[.int .i64 op, .int .u64 client, .int .u64 seq, .int .i64 shard, .int .i64 (sg : Int), .int .u64 pos, .slice none 0 0] 46)).heap.size (w.alloc (.cells #[.int .i64 op, .int .u64 client, .int .u64 seq, .int .i64 shard, .int .i64 (sg : Int), .int .u64 pos, .slice none 0 0] 46)) w') => shlook_two (hf.same (hb'.block bs hf.lt)) hi
  rw [hval] at hl
  simp only [shLook, Option.getD_none, Option.isSome_none, zeroSh] at hl
  have x3 : (w.alloc (.cells #[.int .i64 op, .int .u64 client, .int .u64 seq, .int .i64 shard, .int .i64 (sg : Int), .int .u64 pos, .slice none 0 0] 46)).cell? ⟨w.heap.size, 3, none⟩ = some (.int .i64 shard) := World.news_of_block (heap_alloc_new w _) 3 _ rfl
  have x4 : (w.alloc (.cells #[.int .i64 op, .int .u64 client, .int .u64 seq, .int .i64 shard, .int .i64 (sg : Int), .int .u64 pos, .slice none 0 0] 46)).cell? ⟨w.heap.size, 4, none⟩ = some (.int .i64 (sg : Int)) := World.news_of_block (heap_alloc_new w _) 4 _ rfl
  have hbl : b0 < w.heap.size := h.heap
  have hbl2 : b0 < (w.alloc (.cells #[.int .i64 op, .int .u64 client, .int .u64 seq, .int .i64 shard, .int .i64 (sg : Int), .int .u64 pos, .slice none 0 0] 46)).heap.size := by simp; omega
  have hcT : ∀ w' : World, Below (w.alloc (.cells #[.int .i64 op, .int .u64 client, .int .u64 seq, .int .i64 shard, .int .i64 (sg : Int), .int .u64 pos, .slice none 0 0] 46)).heap.size (w.alloc (.cells #[.int .i64 op, .int .u64 client, .int .u64 seq, .int .i64 shard, .int .i64 (sg : Int), .int .u64 pos, .slice none 0 0] 46)) w' → (w'.cell? ⟨b0, 0, none⟩ = some (.map (some bs)) ∧ w'.cell? ⟨w.heap.size, 3, none⟩ = some (.int .i64 shard) ∧ w'.cell? ⟨w.heap.size, 4, none⟩ = some (.int .i64 (sg : Int)) ∧ (Instr.lookup 86 (.map (some bs)) (.int .i64 shard) true).run Try.prog w' = .ok (.tuple #[.agg #[.int .i64 0, .int .i64 0, .slice none 0 0, .bool false], .bool false]) w') :=
    fun w' hb' => ⟨(hb'.cell (p := ⟨b0, 0, none⟩) hbl2).trans c0, (hb'.cell (p := ⟨w.heap.size, 3, none⟩) (by simp)).trans x3, (hb'.cell (p := ⟨w.heap.size, 4, none⟩) (by simp)).trans x4, hl w' hb'⟩
  have hcS := hcT _ (Below.refl _ (w.alloc (.cells #[.int .i64 op, .int .u64 client, .int .u64 seq, .int .i64 shard, .int .i64 (sg : Int), .int .u64 pos, .slice none 0 0] 46))).drew
  have hcU := fun (o : Obj) => hcT _ (((Below.refl _ (w.alloc (.cells #[.int .i64 op, .int .u64 client, .int .u64 seq, .int .i64 shard, .int .i64 (sg : Int), .int .u64 pos, .slice none 0 0] 46))).alloc (Nat.le_refl _) o).drew)
  have HT := Lib.hid hcT
  have HB := Lib.hid hb
  have HR := Lib.hid hR
  have hst : ∀ w1 : World, Below (w.alloc (.cells #[.int .i64 op, .int .u64 client, .int .u64 seq, .int .i64 shard, .int .i64 (sg : Int), .int .u64 pos, .slice none 0 0] 46)).heap.size (w.alloc (.cells #[.int .i64 op, .int .u64 client, .int .u64 seq, .int .i64 shard, .int .i64 (sg : Int), .int .u64 pos, .slice none 0 0] 46)) w1 → ∃ w2, (Instr.mapUpdate 86 (.map (some bs)) (.int .i64 shard) (.agg #[.int .i64 shard, .int .i64 (sg : Int), .slice none 0 0, .bool false])).run Try.prog w1 = .ok () w2 ∧ FoldR w2 D b0 bs bt (N + 1) lv (putS F shard ⟨shard, sg, [], false⟩) ∧ Keep (fun k => k = bs) w w2 ∧ w1.grownBy w2 (some bs) := by
    intro w1 hb1
    obtain ⟨w2, g1, g2, g3⟩ := (hf.same (hb1.block bs hf.lt)).store idKeyed Try.underlying86 (by unfold maxLen; omega) (val := .agg #[.int .i64 shard, .int .i64 (sg : Int), .slice none 0 0, .bool false]) (id_key hi) (by trivial)
    have h1 := hR.below hb1 (Nat.le_refl _)
    refine ⟨w2, g1, h1.putSh hi (s := ⟨shard, sg, [], false⟩) (sv := .slice none 0 0) g3 (fun a ha => (hvals a ha).keep (Below.keep0 (fun _ => False) hb1) (fun k hk => hk.elim) (fun _ h => h)) hvx g2 (SlR.nil _) (by intro k hk; cases hk) ⟨by simp, hs1, hs4, rfl, by intro x hx; cases hx⟩, ?_, g3⟩
    exact ((Below.keep0 (fun k => k = bs) hb).trans (Below.keep0 _ hb1)).trans (Keep.grown g3 (fun k hk => by cases hk; rfl))
  have HSt := Lib.hid hst
  clear hval hs h hR hb hl hcT c0 hst hvals hf x3 x4
  go_enter Try.func61, Try.ntmps61
  go_wp2
  go_region_held3 (fun w' => w'.cell? ⟨b0, 0, none⟩ = some (.map (some bs)) ∧ w'.cell? ⟨w.heap.size, 3, none⟩ = some (.int .i64 shard) ∧ w'.cell? ⟨w.heap.size, 4, none⟩ = some (.int .i64 (sg : Int)) ∧ (Instr.lookup 86 (.map (some bs)) (.int .i64 shard) true).run Try.prog w' = .ok (.tuple #[.agg #[.int .i64 0, .int .i64 0, .slice none 0 0, .bool false], .bool false]) w') (first | exact hcS | exact hcU _ | go_keep) (fail)
  all_goals
    go_wp2_with fail
    have hB2 := ((Below.refl _ (w.alloc (.cells #[.int .i64 op, .int .u64 client, .int .u64 seq, .int .i64 shard, .int .i64 (sg : Int), .int .u64 pos, .slice none 0 0] 46))).alloc (Nat.le_refl _) (.cells #[.int .i64 0, .int .i64 0, .slice none 0 0, .bool false] 35)).drew
    obtain ⟨s0, s1, s2, _⟩ := HT.out _ hB2.drew
    obtain ⟨w2, hrun, hf2, hk2, hg2⟩ := HSt.out _ hB2.drew
    have hne := H.out.ne
    have hds := H.out.lt _ H.out.ds
    have u0 := hf2.cell.1
    have hsz : w.heap.size < (w.alloc (.cells #[.int .i64 op, .int .u64 client, .int .u64 seq, .int .i64 shard, .int .i64 (sg : Int), .int .u64 pos, .slice none 0 0] 46)).heap.size := by simp
    have u1 : w2.cell? ⟨w.heap.size, 3, none⟩ = some (.int .i64 shard) ∧ w2.cell? ⟨w.heap.size, 4, none⟩ = some (.int .i64 (sg : Int)) := by
      exact ⟨hg2.cell s1 (by simp; omega), hg2.cell s2 (by simp; omega)⟩
    have hcX := And.intro u0 u1
    have hcY := And.intro s0 (And.intro s1 s2)
    have HF2 := Lib.hid hf2
    have HK2 := Lib.hid hk2
    clear hf2 hk2 u0 u1 hg2
    go_region_held3 (fun w' => w'.cell? ⟨b0, 0, none⟩ = some (.map (some bs)) ∧ w'.cell? ⟨w.heap.size, 3, none⟩ = some (.int .i64 shard) ∧ w'.cell? ⟨w.heap.size, 4, none⟩ = some (.int .i64 (sg : Int))) (first | exact hcY | exact hcX | go_keep) (fail)
    go_wp2
    go_ret
    exact ⟨rfl, HF2.out, HK2.out⟩
end Go.Proofs.Ytabanackdjlcmaa
