/-
  Contracts of package fold: seal.
-/
import Derived.Test.YtabanackdjlcmaaCut2
import Derived.Test.YtabanackdjlcmaaFold7
namespace Go.Proofs.Ytabanackdjlcmaa
open Go.ChangeShapes Go.WideShapes Go.ChangeAt Go.RowKit Go.Maps
set_option maxRecDepth 100000

/-- What sealing tells. -/
def sealE (F : FS) (id : Int) (rs : Rw) : Int := if liveE F id = 0 then cutE F rs else liveE F id
/-- What it leaves. -/
def sealF (F : FS) (id : Int) (rs : Rw) : FS := { cutF F rs with sh := fun a => if a = id then ((cutF F rs).sh id).map (fun s => { s with fin := true }) else (cutF F rs).sh a }
def SealPost (D : Nat → Prop) (w : World) (b0 bs bt N : Nat) (F : FS) (id : Int) (rs : Rw) (e : Ending) (w' : World) : Prop :=
  e = .returned (.int .i64 (sealE F id rs)) ∧ (sealE F id rs ≠ 0 → Below w.heap.size w w') ∧ (sealE F id rs = 0 → ∃ D' lv', FoldR w' D' b0 bs bt (N + rs.length + 1) lv' (sealF F id rs) ∧ Keep D w w' ∧ (∀ k, D k → D' k) ∧ (∀ k, D' k → D k ∨ w.heap.size ≤ k))
theorem SealPost.err {D : Nat → Prop} {w w' : World} {b0 bs bt N : Nat} {F : FS} {id : Int} {rs : Rw} {x : Int} (he : sealE F id rs = x) (hx : x ≠ 0) (hb : Below w.heap.size w w') : SealPost D w b0 bs bt N F id rs (.returned (.int .i64 x)) w' :=
  ⟨by rw [he], fun _ => hb, fun h => absurd (he ▸ h) hx⟩
/-- A cut leaves all shards that there are, and how they may be filled. -/
theorem cutF_sh {F : FS} {rs : Rw} {id : Int} {s : Sh} (h : F.sh id = some s) : ∃ s2, (cutF F rs).sh id = some s2 ∧ s2.id = s.id ∧ s2.segs = s.segs ∧ s2.fin = s.fin := by
  show ∃ s2, lenS F rs id = some s2 ∧ _
  unfold lenS
  cases rs.find? (fun r => r.1 == id) with
  | none => exact ⟨s, h, rfl, rfl, rfl⟩
  | some r => exact ⟨{ s with lens := cutI r.2 }, by simp only [h, Option.map_some], rfl, rfl, rfl⟩

set_option maxHeartbeats 4000000 in
theorem seal_any {D : Nat → Prop} {w : World} {b0 bs bt N : Nat} {lv v : Value} {F : FS} {rs : Rw} (h : FoldR w D b0 bs bt N lv F) (hvk : ∀ w', Keep D w w' → RowsL w' v rs) (hl : rs.length ≤ 8) (hFl : F.l.length ≤ 1000000000) (hN : N ≤ 900000000) (hok : rowsB rs = true) (hu : ∀ r ∈ rs, U64 r.2)
    {op client seq shard segs pos : Int} (hi : IdOk shard) :
    Calls Try.prog 62 #[.pointer (some ⟨b0, 0, none⟩), .agg #[.int .i64 op, .int .u64 client, .int .u64 seq, .int .i64 shard, .int .i64 segs, .int .u64 pos, v]] w (SealPost D w b0 bs bt N F shard rs) := by
  have H := Lib.hid h
  have HVK := Lib.hid hvk
  obtain ⟨ao, c, rfl, hc1, hc2, _⟩ := id (hvk w (Keep.refl _ _))
  have hA := (Below.refl w.heap.size w).alloc (Nat.le_refl _) (.cells #[.int .i64 op, .int .u64 client, .int .u64 seq, .int .i64 shard, .int .i64 segs, .int .u64 pos, .slice ao rs.length c] 46)
  have HA := Lib.hid hA
  have HR := Lib.hid (h.below hA (Nat.le_refl _))
  have HBlk := Lib.hid (heap_alloc_new w (.cells #[.int .i64 op, .int .u64 client, .int .u64 seq, .int .i64 shard, .int .i64 segs, .int .u64 pos, .slice ao rs.length c] 46))
  have x3 : (w.alloc (.cells #[.int .i64 op, .int .u64 client, .int .u64 seq, .int .i64 shard, .int .i64 segs, .int .u64 pos, .slice ao rs.length c] 46)).cell? ⟨w.heap.size, 3, none⟩ = some (.int .i64 shard) := World.news_of_block HBlk.out 3 _ rfl
  have HL : Hid (∃ e0, e0 = liveE F shard ∧ Calls Try.prog 70 #[.pointer (some ⟨b0, 0, none⟩), .int .i64 shard] (w.alloc (.cells #[.int .i64 op, .int .u64 client, .int .u64 seq, .int .i64 shard, .int .i64 segs, .int .u64 pos, .slice ao rs.length c] 46)) fun e w' => ∃ g0 g1 so sn sc g3, e = .returned (.tuple #[.agg #[.int .i64 g0, .int .i64 g1, .slice so sn sc, .bool g3], .int .i64 e0]) ∧ Below (w.alloc (.cells #[.int .i64 op, .int .u64 client, .int .u64 seq, .int .i64 shard, .int .i64 segs, .int .u64 pos, .slice ao rs.length c] 46)).heap.size (w.alloc (.cells #[.int .i64 op, .int .u64 client, .int .u64 seq, .int .i64 shard, .int .i64 segs, .int .u64 pos, .slice ao rs.length c] 46)) w') := Lib.hid (by
    cases hs : F.sh shard with
    | none => exact ⟨30, by unfold liveE; rw [hs], (live_none HR.out hi hs).mono fun e w' ⟨h1, h2⟩ => ⟨0, 0, none, 0, 0, false, h1, h2⟩⟩
    | some s =>
      cases hf : s.fin with
      | true => exact ⟨34, by unfold liveE; rw [hs]; simp only; rw [if_pos hf], (live_sealed HR.out hi hs hf).mono fun e w' ⟨h1, h2⟩ => ⟨0, 0, none, 0, 0, false, h1, h2⟩⟩
      | false => exact ⟨0, by unfold liveE; rw [hs]; simp only; rw [if_neg (by rw [hf]; decide)], (live_ok HR.out hi hs hf).mono fun e w' ⟨so, sc, h1, _, _, _, _, h2⟩ => ⟨_, _, _, _, _, _, h1, h2⟩⟩)
  clear hA h hvk
  obtain ⟨e0, he0, hlv⟩ := HL.out
  have HE0 := Lib.hid he0
  have HLv := Lib.hid hlv
  clear he0 hlv HL
  go_enter Try.func62, Try.ntmps62
  go_wp2_with fail
  refine HLv.out.mono ?_
  rintro e w3 ⟨g0, g1, so, sn, sc, g3, rfl, hb3⟩
  have HB3 := Lib.hid hb3
  clear hb3
  by_cases hz : e0 = 0
  · subst hz
    have HB4 := Lib.hid (below3 (Below.refl w.heap.size w) (Nat.le_refl _) HB3.out (.cells #[.int .i64 g0, .int .i64 g1, .slice so sn sc, .bool g3] 35))
    have hA3 := (Below.refl w3.heap.size w3).alloc (Nat.le_refl _) (.cells #[.int .i64 g0, .int .i64 g1, .slice so sn sc, .bool g3] 35)
    have HA3 := Lib.hid hA3
    have HBlk4 := Lib.hid ((hA3.block w.heap.size (by have := HB3.out.size; simp at this; omega)).trans ((HB3.out.block w.heap.size (by simp)).trans HBlk.out))
    have x6 : (w3.alloc (.cells #[.int .i64 g0, .int .i64 g1, .slice so sn sc, .bool g3] 35)).cell? ⟨w.heap.size, 6, none⟩ = some (.slice ao rs.length c) := World.news_of_block HBlk4.out 6 _ rfl
    clear hA3
    go_wp2_with fail
    obtain ⟨w4, hw4⟩ : ∃ w4, w4 = w3.alloc (.cells #[.int .i64 g0, .int .i64 g1, .slice so sn sc, .bool g3] 35) := ⟨_, rfl⟩
    rw [← hw4] at HB4 HBlk4 ⊢
    clear hw4 x6
    refine (cut_walk (H.out.below HB4.out (Nat.le_refl _)) (fun w' hk => HVK.out w' ((Below.keep0 D HB4.out).trans hk)) hl hFl hN hok hu).mono ?_
    rintro e w5 ⟨rfl, hneg, hpos⟩
    have HNeg := Lib.hid hneg
    have HPos := Lib.hid hpos
    clear hneg hpos
    by_cases hc : cutE F rs = 0
    · obtain ⟨D', lv', hF5, hk5, hs5, hn5⟩ := HPos.out hc
      have HF5 := Lib.hid hF5
      have HK5 := Lib.hid hk5
      have HS5 := Lib.hid hs5
      have HN5 := Lib.hid hn5
      have HSE : Hid (sealE F shard rs = 0) := Lib.hid (by unfold sealE; rw [← HE0.out, if_pos rfl, hc])
      obtain ⟨s, hs, hsf⟩ : ∃ s, F.sh shard = some s ∧ s.fin = false := by
        have := HE0.out
        unfold liveE at this
        cases hs : F.sh shard with
        | none => rw [hs] at this; simp at this
        | some s =>
          rw [hs] at this
          simp only at this
          by_cases hf : s.fin = true
          · rw [if_pos hf] at this; omega
          · exact ⟨s, rfl, by simpa using hf⟩
      obtain ⟨s2, hs2, h2a, h2b, h2c⟩ := cutF_sh (rs := rs) hs
      have HSm := Lib.hid (HF5.out.small shard s2 hs2)
      obtain ⟨f, lo, lc, hf, hfid, hsl, hl1, hl2, ho⟩ := hF5.shAt hi hs2
      have HS2 := Lib.hid hs2
      have HSl := Lib.hid hsl
      have HO := Lib.hid ho
      obtain ⟨c0, _⟩ := hF5.cell
      have hb0 := hF5.heap
      have hw5 : w.heap.size < w5.heap.size := by have := HK5.out.size; have := HB4.out.size; have := (Array.getElem?_eq_some_iff.1 HBlk4.out).1; omega
      have hD0 : ¬ D w.heap.size := fun hd => by have := H.out.lt _ hd; omega
      have hk50 := (HK5.out.block w.heap.size (Array.getElem?_eq_some_iff.1 HBlk4.out).1 hD0).trans HBlk4.out
      have HBlk5 := Lib.hid hk50
      have HAll : Hid (∀ W', Below w5.heap.size w5 W' → (W'.cell? ⟨b0, 0, none⟩ = some (.map (some bs)) ∧ W'.cell? ⟨w.heap.size, 3, none⟩ = some (.int .i64 shard) ∧ (Instr.lookup 86 (.map (some bs)) (.int .i64 shard) false).run Try.prog W' = .ok (.agg #[.int .i64 s2.id, .int .i64 s2.segs, .slice lo s2.lens.length lc, .bool s2.fin]) W')) := Lib.hid (fun W' hW' => by
        refine ⟨(hW'.cell (p := ⟨b0, 0, none⟩) hb0).trans c0, World.news_of_block ((hW'.block w.heap.size hw5).trans hk50) 3 _ rfl, ?_⟩
        have hl := shlook_one (hf.same (hW'.block bs hf.lt)) hi
        rw [hfid] at hl
        exact hl)
      have HC := Lib.hid hc
      clear hs2 hsl ho hf hfid c0 hk50 hD0 hs hsf h2a h2b h2c hF5 hk5 hs5 hn5 hc
      rw [HC.out]
      go_wp2_with fail
      refine wp_region_noPanic ?_
      refine wp_region_U (fun w' => w'.cell? ⟨b0, 0, none⟩ = some (.map (some bs)) ∧ w'.cell? ⟨w.heap.size, 3, none⟩ = some (.int .i64 shard) ∧ (Instr.lookup 86 (.map (some bs)) (.int .i64 shard) false).run Try.prog w' = .ok (.agg #[.int .i64 s2.id, .int .i64 s2.segs, .slice lo s2.lens.length lc, .bool s2.fin]) w') (fun w' => True) 99 (by kernel_rfl) ?_
      have hS0 := HAll.out _ ((Below.refl _ w5).drew)
      have hS1 : True := trivial
      refine wpAnyU_take (i := 0) (v := ?_) false (by simp only [List.getElem?_toArray, List.getElem?_cons_zero]; rfl) (by kernel_rfl) (by kernel_rfl) (by kernel_rfl) (fun _ _ _ h => h) (by kernel_rfl) (by decide) (Or.inl ⟨by rfl, ?_⟩) ⟨hS0, (fun _ => hS1)⟩ ?_
      rotate_left
      · rintro w ⟨hSw, hSx⟩
        (try dsimp only at hSw)
        clear hSx
        go_simp
        first | done | with_reducible rfl
      (try simp only [Act.put, List.setIfInBounds_toArray, List.set_cons_zero, List.set_cons_succ])
      refine wpAnyU_take (i := 1) (v := ?_) false (by simp only [List.getElem?_toArray, List.getElem?_cons_succ, List.getElem?_cons_zero]; rfl) (by kernel_rfl) (by kernel_rfl) (by kernel_rfl) (fun _ _ _ h => h) (by kernel_rfl) (by decide) (Or.inl ⟨by rfl, ?_⟩) ⟨hS0, (fun _ => hS1)⟩ ?_
      rotate_left
      · rintro w ⟨hSw, hSx⟩
        (try dsimp only at hSw)
        clear hSx
        go_simp
        first | done | with_reducible rfl
      (try simp only [Act.put, List.setIfInBounds_toArray, List.set_cons_zero, List.set_cons_succ])
      refine wpAnyU_take (i := 2) (v := ?_) false (by simp only [List.getElem?_toArray, List.getElem?_cons_succ, List.getElem?_cons_zero]; rfl) (by kernel_rfl) (by kernel_rfl) (by kernel_rfl) (fun _ _ _ h => h) (by kernel_rfl) (by decide) (Or.inl ⟨by rfl, ?_⟩) ⟨hS0, (fun _ => hS1)⟩ ?_
      rotate_left
      · rintro w ⟨hSw, hSx⟩
        (try dsimp only at hSw)
        clear hSx
        go_simp
        first | done | with_reducible rfl
      (try simp only [Act.put, List.setIfInBounds_toArray, List.set_cons_zero, List.set_cons_succ])
      refine wpAnyU_take (i := 3) (v := ?_) false (by simp only [List.getElem?_toArray, List.getElem?_cons_succ, List.getElem?_cons_zero]; rfl) (by kernel_rfl) (by kernel_rfl) (by kernel_rfl) (fun _ _ _ h => h) (by kernel_rfl) (by decide) (Or.inl ⟨by rfl, ?_⟩) ⟨hS0, (fun _ => hS1)⟩ ?_
      rotate_left
      · rintro w ⟨hSw, hSx⟩
        (try dsimp only at hSw)
        clear hSx
        go_simp
        first | done | with_reducible rfl
      (try simp only [Act.put, List.setIfInBounds_toArray, List.set_cons_zero, List.set_cons_succ])
      refine wpAnyU_take (i := 4) (v := ?_) false (by simp only [List.getElem?_toArray, List.getElem?_cons_succ, List.getElem?_cons_zero]; rfl) (by kernel_rfl) (by kernel_rfl) (by kernel_rfl) (fun _ _ _ h => h) (by kernel_rfl) (by decide) (Or.inl ⟨by rfl, ?_⟩) ⟨hS0, (fun _ => hS1)⟩ ?_
      rotate_left
      · rintro w ⟨hSw, hSx⟩
        (try dsimp only at hSw)
        clear hSx
        go_simp
        first | done | with_reducible rfl
      (try simp only [Act.put, List.setIfInBounds_toArray, List.set_cons_zero, List.set_cons_succ])
      refine wpAnyU_take (i := 5) (v := ?_) false (by simp only [List.getElem?_toArray, List.getElem?_cons_succ, List.getElem?_cons_zero]; rfl) (by kernel_rfl) (by kernel_rfl) (by kernel_rfl) (fun _ _ _ h => h) (by kernel_rfl) (by decide) (Or.inl ⟨by rfl, ?_⟩) ⟨hS0, (fun _ => hS1)⟩ ?_
      rotate_left
      · rintro w ⟨hSw, hSx⟩
        (try dsimp only at hSw)
        clear hSx
        go_simp
        first | done | with_reducible rfl
      (try simp only [Act.put, List.setIfInBounds_toArray, List.set_cons_zero, List.set_cons_succ])
      refine wpAnyU_take (i := 6) (v := ?_) false (by simp only [List.getElem?_toArray, List.getElem?_cons_succ, List.getElem?_cons_zero]; rfl) (by kernel_rfl) (by kernel_rfl) (by kernel_rfl) (fun _ _ _ h => h) (by kernel_rfl) (by decide) (Or.inl ⟨by rfl, ?_⟩) ⟨hS0, (fun _ => hS1)⟩ ?_
      rotate_left
      · rintro w ⟨hSw, hSx⟩
        (try dsimp only at hSw)
        clear hSx
        go_simp
        first | done | with_reducible rfl
      (try simp only [Act.put, List.setIfInBounds_toArray, List.set_cons_zero, List.set_cons_succ])
      refine wpAnyU_one (i := 7) (by kernel_rfl) (by simp only [List.getElem?_toArray, List.getElem?_cons_succ, List.getElem?_cons_zero]; rfl) ?_
      intro K hK
      go_simp
      clear hS0
      have hS0 := HAll.out _ (((Below.refl _ w5).drew).alloc (by simp) (.cells #[.int .i64 0, .int .i64 0, .slice none 0 0, .bool false] 35))
      refine hK.out _ _ ⟨hS0, (fun _ => hS1)⟩ ?_
      clear hK
      (try simp only [Act.put, List.setIfInBounds_toArray, List.set_cons_zero, List.set_cons_succ])
      refine wpAnyU_one (i := 8) (by kernel_rfl) (by simp only [List.getElem?_toArray, List.getElem?_cons_succ, List.getElem?_cons_zero]; rfl) ?_
      intro K hK
      go_simp
      clear hS0
      have hS0 := HAll.out _ (((Below.refl _ w5).drew).alloc (by simp) (.cells #[.int .i64 s2.id, .int .i64 s2.segs, .slice lo s2.lens.length lc, .bool s2.fin] 35))
      refine hK.out _ _ ⟨hS0, (fun _ => hS1)⟩ ?_
      clear hK
      (try simp only [Act.put, List.setIfInBounds_toArray, List.set_cons_zero, List.set_cons_succ])
      refine wpAnyU_done (by kernel_rfl) ?_ _
      refine NoPanic.normal ?_
      clear hS0 hS1
      go_wp2_with fail
      have HBd : Hid (Below w5.heap.size w5 ((w5.alloc (.cells #[.int .i64 s2.id, .int .i64 s2.segs, .slice lo s2.lens.length lc, .bool true] 35)).drew).drew) := Lib.hid (((Below.refl _ _).alloc (Nat.le_refl _) _).drew.drew)
      have hk8 : ((w5.alloc (.cells #[.int .i64 s2.id, .int .i64 s2.segs, .slice lo s2.lens.length lc, .bool true] 35)).drew).drew.heap[w5.heap.size]? = some (.cells #[.int .i64 s2.id, .int .i64 s2.segs, .slice lo s2.lens.length lc, .bool true] 35) := heap_alloc_new w5 _
      have hcell7 : ((w5.alloc (.cells #[.int .i64 s2.id, .int .i64 s2.segs, .slice lo s2.lens.length lc, .bool true] 35)).drew).drew.cell? ⟨b0, 0, none⟩ = some (.map (some bs)) ∧ ((w5.alloc (.cells #[.int .i64 s2.id, .int .i64 s2.segs, .slice lo s2.lens.length lc, .bool true] 35)).drew).drew.cell? ⟨w.heap.size, 3, none⟩ = some (.int .i64 shard) ∧ ((w5.alloc (.cells #[.int .i64 s2.id, .int .i64 s2.segs, .slice lo s2.lens.length lc, .bool true] 35)).drew).drew.cell? ⟨w5.heap.size, 0, none⟩ = some (.int .i64 s2.id) ∧ ((w5.alloc (.cells #[.int .i64 s2.id, .int .i64 s2.segs, .slice lo s2.lens.length lc, .bool true] 35)).drew).drew.cell? ⟨w5.heap.size, 1, none⟩ = some (.int .i64 s2.segs) ∧ ((w5.alloc (.cells #[.int .i64 s2.id, .int .i64 s2.segs, .slice lo s2.lens.length lc, .bool true] 35)).drew).drew.cell? ⟨w5.heap.size, 2, none⟩ = some (.slice lo s2.lens.length lc) ∧ ((w5.alloc (.cells #[.int .i64 s2.id, .int .i64 s2.segs, .slice lo s2.lens.length lc, .bool true] 35)).drew).drew.cell? ⟨w5.heap.size, 3, none⟩ = some (.bool true) := ⟨(HAll.out _ HBd.out).1, (HAll.out _ HBd.out).2.1, World.news_of_block hk8 0 _ rfl, World.news_of_block hk8 1 _ rfl, World.news_of_block hk8 2 _ rfl, World.news_of_block hk8 3 _ rfl⟩
      obtain ⟨w9, hrun9, hf9, hk9, hg9⟩ := HF5.out.store hi (s := { s2 with fin := true }) (sv := .slice lo s2.lens.length lc) HBd.out (by omega) HSl.out HO.out HSm.out
      have hpost : SealPost D w b0 bs bt N F shard rs (.returned (.int .i64 0)) w9 := by
        have e : putS (cutF F rs) shard { s2 with fin := true } = sealF F shard rs := by
          unfold putS sealF
          rw [HS2.out]; rfl
        rw [e] at hf9
        refine ⟨by rw [HSE.out], fun h => absurd HSE.out h, fun _ => ⟨D', lv', hf9, ?_, HS5.out, fun k hk => ?_⟩⟩
        · refine ((Below.keep0 D HB4.out).chain HK5.out (fun x hx hd => hd)).chain hk9 (fun x hx e => ?_)
          subst e
          rcases HN5.out x HF5.out.ds with e | e
          · exact e
          · have := HB4.out.size; omega
        · rcases HN5.out k hk with e | e
          · exact Or.inl e
          · have := HB4.out.size; exact Or.inr (by omega)
      have HPo := Lib.hid hpost
      clear hk8 hf9 hk9 hg9 hpost
      refine wp_region_noPanic ?_
      refine wp_region_U (fun w' => True) (fun w' => w'.cell? ⟨b0, 0, none⟩ = some (.map (some bs)) ∧ w'.cell? ⟨w.heap.size, 3, none⟩ = some (.int .i64 shard) ∧ w'.cell? ⟨w5.heap.size, 0, none⟩ = some (.int .i64 s2.id) ∧ w'.cell? ⟨w5.heap.size, 1, none⟩ = some (.int .i64 s2.segs) ∧ w'.cell? ⟨w5.heap.size, 2, none⟩ = some (.slice lo s2.lens.length lc) ∧ w'.cell? ⟨w5.heap.size, 3, none⟩ = some (.bool true)) 7 (by kernel_rfl) ?_
      have hS0 : True := trivial
      have hS1 := hcell7
      refine wpAnyU_take (i := 0) (v := ?_) false (by simp only [List.getElem?_toArray, List.getElem?_cons_zero]; rfl) (by kernel_rfl) (by kernel_rfl) (by kernel_rfl) (fun _ _ _ h => h) (by kernel_rfl) (by decide) (Or.inl ⟨by rfl, ?_⟩) ⟨hS0, (fun _ => hS1)⟩ ?_
      rotate_left
      · rintro w ⟨hSw, hSx⟩
        (try dsimp only at hSw)
        clear hSx
        go_simp
        first | done | with_reducible rfl
      (try simp only [Act.put, List.setIfInBounds_toArray, List.set_cons_zero, List.set_cons_succ])
      refine wpAnyU_take (i := 1) (v := ?_) false (by simp only [List.getElem?_toArray, List.getElem?_cons_succ, List.getElem?_cons_zero]; rfl) (by kernel_rfl) (by kernel_rfl) (by kernel_rfl) (fun _ _ _ h => h) (by kernel_rfl) (by decide) (Or.inl ⟨by rfl, ?_⟩) ⟨hS0, (fun _ => hS1)⟩ ?_
      rotate_left
      · rintro w ⟨hSw, hSx⟩
        (try dsimp only at hSw)
        clear hSx
        go_simp
        first | done | with_reducible rfl
      (try simp only [Act.put, List.setIfInBounds_toArray, List.set_cons_zero, List.set_cons_succ])
      refine wpAnyU_take (i := 2) (v := ?_) false (by simp only [List.getElem?_toArray, List.getElem?_cons_succ, List.getElem?_cons_zero]; rfl) (by kernel_rfl) (by kernel_rfl) (by kernel_rfl) (fun _ _ _ h => h) (by kernel_rfl) (by decide) (Or.inl ⟨by rfl, ?_⟩) ⟨hS0, (fun _ => hS1)⟩ ?_
      rotate_left
      · rintro w ⟨hSw, hSx⟩
        (try dsimp only at hSw)
        clear hSx
        go_simp
        first | done | with_reducible rfl
      (try simp only [Act.put, List.setIfInBounds_toArray, List.set_cons_zero, List.set_cons_succ])
      refine wpAnyU_take (i := 3) (v := ?_) true (by simp only [List.getElem?_toArray, List.getElem?_cons_succ, List.getElem?_cons_zero]; rfl) (by kernel_rfl) (by kernel_rfl) (by kernel_rfl) (fun _ _ _ h => h) (by kernel_rfl) (by decide) (Or.inl ⟨by rfl, ?_⟩) ⟨hS0, (fun _ => hS1)⟩ ?_
      rotate_left
      · rintro w ⟨hSw, hSx⟩
        (try dsimp only at hSw)
        have hSx := hSx rfl
        (try dsimp only at hSx)
        go_simp
        first | done | with_reducible rfl
      (try simp only [Act.put, List.setIfInBounds_toArray, List.set_cons_zero, List.set_cons_succ])
      refine wpAnyU_take (i := 4) (v := ?_) false (by simp only [List.getElem?_toArray, List.getElem?_cons_succ, List.getElem?_cons_zero]; rfl) (by kernel_rfl) (by kernel_rfl) (by kernel_rfl) (fun _ _ _ h => h) (by kernel_rfl) (by decide) (Or.inl ⟨by rfl, ?_⟩) ⟨hS0, (fun _ => hS1)⟩ ?_
      rotate_left
      · rintro w ⟨hSw, hSx⟩
        (try dsimp only at hSw)
        clear hSx
        go_simp
        first | done | with_reducible rfl
      (try simp only [Act.put, List.setIfInBounds_toArray, List.set_cons_zero, List.set_cons_succ])
      refine wpAnyU_take (i := 5) (v := ?_) true (by simp only [List.getElem?_toArray, List.getElem?_cons_succ, List.getElem?_cons_zero]; rfl) (by kernel_rfl) (by kernel_rfl) (by kernel_rfl) (fun _ _ _ h => h) (by kernel_rfl) (by decide) (Or.inl ⟨by rfl, ?_⟩) ⟨hS0, (fun _ => hS1)⟩ ?_
      rotate_left
      · rintro w ⟨hSw, hSx⟩
        (try dsimp only at hSw)
        have hSx := hSx rfl
        (try dsimp only at hSx)
        go_simp
        first | done | with_reducible rfl
      (try simp only [Act.put, List.setIfInBounds_toArray, List.set_cons_zero, List.set_cons_succ])
      refine wpAnyU_take (i := 6) (v := ?_) true (by simp only [List.getElem?_toArray, List.getElem?_cons_succ, List.getElem?_cons_zero]; rfl) (by kernel_rfl) (by kernel_rfl) (by kernel_rfl) (fun _ _ _ h => h) (by kernel_rfl) (by decide) (Or.inl ⟨by rfl, ?_⟩) ⟨hS0, (fun _ => hS1)⟩ ?_
      rotate_left
      · rintro w ⟨hSw, hSx⟩
        (try dsimp only at hSw)
        have hSx := hSx rfl
        (try dsimp only at hSx)
        go_simp
        first | done | with_reducible rfl
      (try simp only [Act.put, List.setIfInBounds_toArray, List.set_cons_zero, List.set_cons_succ])
      refine wpAnyU_one (i := 7) (by kernel_rfl) (by simp only [List.getElem?_toArray, List.getElem?_cons_succ, List.getElem?_cons_zero]; rfl) ?_
      intro K hK
      go_simp
      clear hS0
      have hS0 : True := trivial
      refine hK.out _ _ ⟨hS0, (fun h => absurd h (by decide))⟩ ?_
      clear hK
      (try simp only [Act.put, List.setIfInBounds_toArray, List.set_cons_zero, List.set_cons_succ])
      refine wpAnyU_done (by kernel_rfl) ?_ _
      refine NoPanic.normal ?_
      clear hS0 hS1
      go_wp2_with fail
      go_ret
      exact HPo.out
    · have HE1 : Hid (sealE F shard rs = cutE F rs) := Lib.hid (by unfold sealE; rw [← HE0.out, if_pos rfl])
      have HC := Lib.hid hc
      have HBn := Lib.hid (HNeg.out hc)
      have hzb : (cutE F rs == 0) = false := by simpa using hc
      generalize cutE F rs = ce at *
      clear hc
      go_wp2_with fail
      go_ret
      exact SealPost.err HE1.out HC.out (HB4.out.trans (HBn.out.mono HB4.out.size))
  · have hzb : (e0 == 0) = false := by simpa using hz
    have HE1 : Hid (sealE F shard rs = e0) := Lib.hid (by unfold sealE; rw [← HE0.out, if_neg hz])
    have HZ := Lib.hid hz
    clear hz
    go_wp2_with fail
    go_ret
    exact SealPost.err HE1.out HZ.out (below3 (Below.refl _ _) (Nat.le_refl _) HB3.out _)
end Go.Proofs.Ytabanackdjlcmaa
