/-
  Package fold: Apply of whatever command.
-/
import Derived.Test.YtabanackdjlcmaaDo2
namespace Go.Proofs.Ytabanackdjlcmaa
open Go.ChangeShapes Go.WideShapes Go.ChangeAt Go.RowKit Go.Maps
set_option maxRecDepth 100000

theorem below_lt (w : World) (o : Obj) : Below w.heap.size w (w.alloc o) := (Below.refl _ _).alloc (Nat.le_refl _) _
open Classical in
/-- An outcome is noted. -/
noncomputable def tellF (F : FS) (a b x : Int) : FS := { F with told := fun c d => if wk c d = wk a b then some x else F.told c d }
theorem FoldR.tell {D : Nat → Prop} {w : World} {b0 bs bt n : Nat} {lv : Value} {F : FS} (h : FoldR w D b0 bs bt n lv F) {a b : Int} (ha : Nat64 a) (hb : Nat64 b) (x : Int) (hN : n < 1000000) :
    ∃ w', (Instr.mapUpdate 87 (.map (some bt)) (.agg #[.int .u64 a, .int .u64 b]) (.int .i64 x)).run Try.prog w = .ok () w' ∧ FoldR w' D b0 bs bt (n + 1) lv (tellF F a b x) ∧ Keep (fun k => k = bt) w w' ∧ w.grownBy w' (some bt) := by
  obtain ⟨f, hf, hfv⟩ := h.told
  obtain ⟨w', hrun, hm, hg⟩ := hf.store whoKeyed Try.underlying87 (by unfold maxLen; omega) (wk_of ha hb) (val := .int .i64 x) (by trivial)
  have hk : Keep (fun k => k = bt) w w' := Keep.grown hg (fun k hk => by cases hk; rfl)
  obtain ⟨g, hg1, hg2, hg3⟩ := h.sh
  refine ⟨w', hrun, ⟨(hk.block b0 (h.lt _ h.d0) (fun e => h.ne.2.1 e.symm)).trans h.cells, fun k hd => Nat.lt_of_lt_of_le (h.lt k hd) hk.size, h.d0, h.ds, h.dt, h.dl, h.ne, own_keepS hk h.own (fun k hk' e => (h.dl k hk').2.2.2 e),
    ⟨g, (hg1.keep hk (fun e => h.ne.2.2 e)).mono (by omega), fun a' ha' => (hg2 a' ha').keep hk (fun k e _ => Or.inr (Or.inr (Or.inl e))) (fun _ h => h), hg3⟩, ⟨_, hm, fun c d => ?_⟩, h.num, h.small⟩, hk, hg⟩
  unfold putF tellF
  simp only
  by_cases e : wk c d = wk a b
  · rw [if_pos e, if_pos e]; rfl
  · rw [if_neg e, if_neg e]; exact hfv c d
def applyE (F : FS) (c : Cm) : Int := if checkB c = true then (if c.client = 0 ∧ c.seq = 0 then doE F c else match F.told c.client c.seq with | some x => x | none => doE F c) else 1
noncomputable def applyF (F : FS) (c : Cm) : FS := if checkB c = true then (if c.client = 0 ∧ c.seq = 0 then doF F c else match F.told c.client c.seq with | some _ => F | none => tellF (doF F c) c.client c.seq (doE F c)) else F
set_option maxHeartbeats 2000000 in
theorem apply_no (w : World) (b0 : Nat) {c : Cm} {v : Value} (hv : RowsL w v c.rows) (hl : c.rows.length ≤ 1000000) (hc : checkB c = false) :
    Calls Try.prog 25 #[.pointer (some ⟨b0, 0, none⟩), cmV c v] w fun e w' => e = .returned (.int .i64 1) ∧ Below w.heap.size w w' := by
  have hb := below_lt w (.cells #[.int .i64 c.op, .int .u64 c.client, .int .u64 c.seq, .int .i64 c.shard, .int .i64 c.segs, .int .u64 c.pos, v] 46)
  have HCk := Lib.hid (check_any (hv.below hb (Nat.le_refl _)) hl)
  have he : checkE c = 1 := by unfold checkE; rw [if_neg (by rw [hc]; decide)]
  rw [he] at HCk
  have HB := Lib.hid hb
  obtain ⟨ao, cc, rfl, _, _, _⟩ := id hv
  clear hv hb he hc
  go_enter Try.func25, Try.ntmps25
  go_wp2_with fail
  refine HCk.out.mono ?_
  rintro e w2 ⟨rfl, hb2⟩
  have HB2 := Lib.hid (HB.out.trans (hb2.mono HB.out.size))
  clear hb2
  go_wp2_with fail
  go_ret
  exact ⟨rfl, HB2.out⟩
set_option maxHeartbeats 2000000 in
theorem FoldO.tells {p : Value} {D : Nat → Prop} {w : World} {N : Nat} {F : FS} (h : FoldO p D w N F) {c : Cm} {v : Value} (hvk : RowsD D w v c.rows) (hcb : checkB c = true) (hu : ∀ r ∈ c.rows, U64 r.2) (hpos : 0 ≤ c.pos) (hcl : Nat64 c.client ∧ Nat64 c.seq) (hno : ¬ (c.client = 0 ∧ c.seq = 0)) (hFl : F.l.length ≤ 1000000000) (hN : N ≤ 900000) :
    Calls Try.prog 25 #[p, cmV c v] w fun e w' => e = .returned (.int .i64 (applyE F c)) ∧ ∃ D', FoldO p D' w' (N + 10) (applyF F c) ∧ Moved D D' w w' := by
  obtain ⟨b0, bs, bt, n, lv, rfl, h2, h3⟩ := h
  have hv0 := hvk w (Keep.refl _ _)
  have hb := below_lt w (.cells #[.int .i64 c.op, .int .u64 c.client, .int .u64 c.seq, .int .i64 c.shard, .int .i64 c.segs, .int .u64 c.pos, v] 46)
  have hblk := heap_alloc_new w (.cells #[.int .i64 c.op, .int .u64 c.client, .int .u64 c.seq, .int .i64 c.shard, .int .i64 c.segs, .int .u64 c.pos, v] 46)
  have HCk := Lib.hid (check_any (c := c) (hv0.below hb (Nat.le_refl _)) (by have := hcb; unfold checkB checkA at this; simp only [Bool.and_eq_true] at this; have := rowsB_len this.1.1.2; omega))
  have he : checkE c = 0 := by unfold checkE; rw [if_pos hcb]
  rw [he] at HCk
  have HB := Lib.hid hb
  have HBlk := Lib.hid hblk
  have HVk := Lib.hid hvk
  obtain ⟨ao, cc, rfl, _, _, _⟩ := id hv0
  obtain ⟨op, client, seq, shard, segs, pos, rs⟩ := c
  simp only at *
  have H := Lib.hid h2
  clear hv0 hvk hb hblk he h2
  go_enter Try.func25, Try.ntmps25
  go_wp2_with fail
  refine HCk.out.mono ?_
  rintro e w2 ⟨rfl, hb2⟩
  have k2 := (hb2.block w.heap.size (by simp)).trans HBlk.out
  have q1 : w2.cell? ⟨w.heap.size, 1, none⟩ = some (.int .u64 client) := by simp [World.cell?, k2]
  have q2 : w2.cell? ⟨w.heap.size, 2, none⟩ = some (.int .u64 seq) := by simp [World.cell?, k2]
  have hor : (client == 0) = false ∨ ((client == 0) = true ∧ (seq == 0) = false) := by
    by_cases hc0 : client = 0
    · right
      exact ⟨by rw [beq_iff_eq]; exact hc0, by rw [beq_eq_false_iff_ne]; exact fun h => hno ⟨hc0, h⟩⟩
    · left
      rw [beq_eq_false_iff_ne]; exact hc0
  go_upto_region 7 with fail
  go_cut [23] (fun s23 wx => s23 = .bool false ∧ wx = w2.alloc (.cells #[.int .u64 client, .int .u64 seq] 91))
  case first =>
    rcases hor with hor | ⟨hor, hor'⟩
    · go_wp2_with fail
      go_meet
      exact ⟨rfl, rfl⟩
    · go_wp2_with fail
      go_meet
      exact ⟨rfl, rfl⟩
  case rest =>
    obtain ⟨rfl, rfl⟩ := hcut
    clear hor q1 q2
    obtain ⟨W3, HW3⟩ : ∃ x, x = w2.alloc (.cells #[.int .u64 client, .int .u64 seq] 91) := ⟨_, rfl⟩
    rw [← HW3]
    have hb3 : Below w2.heap.size w2 W3 := by rw [HW3]; exact below_lt _ _
    have e3 : W3.heap[w2.heap.size]? = some (.cells #[.int .u64 client, .int .u64 seq] 91 (0, 0)) := by rw [HW3]; exact heap_alloc_new w2 _
    clear HW3
    have hs2 : w.heap.size < w2.heap.size := (Array.getElem?_eq_some_iff.1 k2).1
    have k3 := (hb3.block w.heap.size hs2).trans k2
    have hbw : Below w.heap.size w W3 := HB.out.trans ((hb2.mono HB.out.size).trans (hb3.mono (by omega)))
    have hR3 := H.out.below hbw (Nat.le_refl _)
    obtain ⟨f, hf, hfv⟩ := hR3.told
    obtain ⟨_, _, _, _, c4, _⟩ := hR3.cell
    have hlk0 := fun (W : World) (hW : W.heap[bt]? = W3.heap[bt]?) => (hf.same hW).look_ok whoKeyed Try.underlying87 (zeroErrno W) (wk_of hcl.1 hcl.2)
    simp only [hfv] at hlk0
    have hlk := fun n => hlk0 (W3.drewN n) rfl
    have hlo := fun n => (hf.same (show (W3.drewN n).heap[bt]? = W3.heap[bt]? from rfl)).look whoKeyed Try.underlying87 (zeroErrno (W3.drewN n)) (wk_of hcl.1 hcl.2)
    simp only [hfv] at hlo
    have u0 : W3.cell? ⟨w2.heap.size, 0, none⟩ = some (.int .u64 client) := World.news_of_block e3 0 _ rfl
    have u1 : W3.cell? ⟨w2.heap.size, 1, none⟩ = some (.int .u64 seq) := World.news_of_block e3 1 _ rfl
    have HR3 := Lib.hid hR3
    have HBw := Lib.hid hbw
    have HE3 := Lib.hid e3
    have HK3 := Lib.hid k3
    have HLk := Lib.hid hlk0
    clear hR3 hbw e3 k3 hf hfv hb3 hb2 k2 hlk0
    have HAE : Hid (applyE F ⟨op, client, seq, shard, segs, pos, rs⟩ = match F.told client seq with | some x => x | none => doE F ⟨op, client, seq, shard, segs, pos, rs⟩) := Lib.hid (by
      unfold applyE; rw [if_pos hcb, if_neg hno])
    have HAF : Hid (applyF F ⟨op, client, seq, shard, segs, pos, rs⟩ = match F.told client seq with | some _ => F | none => tellF (doF F ⟨op, client, seq, shard, segs, pos, rs⟩) client seq (doE F ⟨op, client, seq, shard, segs, pos, rs⟩)) := Lib.hid (by
      unfold applyF; rw [if_pos hcb, if_neg hno])
    cases ht : F.told client seq with
    | some x =>
      rw [ht] at hlk hlo HAE HAF
      simp only [Option.map_some, Option.getD_some, Option.isSome_some] at hlk hlo
      clear ht
      go_wp2_with fail
      go_quiet (fail)
      go_wp2_with fail
      obtain ⟨W4, HW4⟩ : ∃ z, z = W3.drewN nq := ⟨_, rfl⟩
      have hlo4 : ∀ n, (Instr.lookup 87 (.map (some bt)) (.agg #[.int .u64 client, .int .u64 seq]) false).run Try.prog (W4.drewN n) = .ok (.int .i64 x) (W4.drewN n) := fun n => by
        rw [HW4, show (W3.drewN nq).drewN n = W3.drewN (nq + n) by simp [drewN_eq, Nat.add_assoc]]
        exact hlo (nq + n)
      have c4' : W4.cell? ⟨b0, 4, none⟩ = some (.map (some bt)) := by rw [HW4]; exact c4
      have u0' : W4.cell? ⟨w2.heap.size, 0, none⟩ = some (.int .u64 client) := by rw [HW4]; exact u0
      have u1' : W4.cell? ⟨w2.heap.size, 1, none⟩ = some (.int .u64 seq) := by rw [HW4]; exact u1
      have HB4 : Hid (Below w.heap.size w W4) := Lib.hid (by rw [HW4]; exact below_drewN HBw.out _)
      rw [← HW4]
      clear HW4 hlk hlo c4 u0 u1
      go_quiet (fail)
      go_wp2_with fail
      go_ret
      have hBB := below_drewN HB4.out nq
      rw [HAE.out, HAF.out]
      exact ⟨rfl, D, ⟨b0, bs, bt, n, lv, rfl, H.out.below hBB (Nat.le_refl _), by omega⟩, Moved.of (Below.keep0 D hBB)⟩
    | none =>
      rw [ht] at hlk HAE HAF
      simp only [Option.map_none, Option.getD_none, Option.isSome_none] at hlk
      clear ht hlo
      go_wp2_with fail
      go_quiet (fail)
      go_wp2_with fail
      obtain ⟨W4, HW4⟩ : ∃ z, z = W3.drewN nq := ⟨_, rfl⟩
      have hk4 : W4.heap[w.heap.size]? = some (.cells #[.int .i64 op, .int .u64 client, .int .u64 seq, .int .i64 shard, .int .i64 segs, .int .u64 pos, .slice ao (List.length rs) cc] 46 (0, 0)) := by rw [HW4]; exact HK3.out
      have he4 : W4.heap[w2.heap.size]? = some (.cells #[.int .u64 client, .int .u64 seq] 91 (0, 0)) := by rw [HW4]; exact HE3.out
      have hb4 : Below w.heap.size w W4 := by rw [HW4]; exact below_drewN HBw.out _
      rw [← HW4]
      clear HW4 hlk c4 u0 u1
      have hR4 := H.out.below hb4 (Nat.le_refl _)
      have hq4 : w.heap.size < W4.heap.size := (Array.getElem?_eq_some_iff.1 hk4).1
      have hw4 : w2.heap.size < W4.heap.size := (Array.getElem?_eq_some_iff.1 he4).1
      have hDlt := H.out.lt
      have hS : ∀ (wx : World) (D' : Nat → Prop), Keep D W4 wx → wx.heap[w.heap.size]? = W4.heap[w.heap.size]? ∧ wx.heap[w2.heap.size]? = W4.heap[w2.heap.size]? := fun wx _ hk =>
        ⟨hk.block _ hq4 (fun hd => by have := hDlt _ hd; omega), hk.block _ hw4 (fun hd => by have := hDlt _ hd; omega)⟩
      have HDo := Lib.hid ((hR4.below (Below.refl _ _).drew (Nat.le_refl _)).doing (c := ⟨op, client, seq, shard, segs, pos, rs⟩) (HVk.out.below hb4.drew) hcb hu hpos hFl (by omega))
      obtain ⟨_, _, _, _, c4, _⟩ := hR4.cell
      have o0 : W4.cell? ⟨w.heap.size, 0, none⟩ = some (.int .i64 op) := World.news_of_block hk4 0 _ rfl
      have o1 : W4.cell? ⟨w.heap.size, 1, none⟩ = some (.int .u64 client) := World.news_of_block hk4 1 _ rfl
      have o2 : W4.cell? ⟨w.heap.size, 2, none⟩ = some (.int .u64 seq) := World.news_of_block hk4 2 _ rfl
      have o3 : W4.cell? ⟨w.heap.size, 3, none⟩ = some (.int .i64 shard) := World.news_of_block hk4 3 _ rfl
      have o4 : W4.cell? ⟨w.heap.size, 4, none⟩ = some (.int .i64 segs) := World.news_of_block hk4 4 _ rfl
      have o5 : W4.cell? ⟨w.heap.size, 5, none⟩ = some (.int .u64 pos) := World.news_of_block hk4 5 _ rfl
      have o6 : W4.cell? ⟨w.heap.size, 6, none⟩ = some (.slice ao (List.length rs) cc) := World.news_of_block hk4 6 _ rfl
      have u0 : W4.cell? ⟨w2.heap.size, 0, none⟩ = some (.int .u64 client) := World.news_of_block he4 0 _ rfl
      have u1 : W4.cell? ⟨w2.heap.size, 1, none⟩ = some (.int .u64 seq) := World.news_of_block he4 1 _ rfl
      have HH4 := Lib.hid (And.intro hk4 he4)
      have HR4 := Lib.hid hR4
      have HB4 := Lib.hid hb4
      have HS := Lib.hid hS
      clear hk4 he4 hb4 hS
      clear hR4
      go_region_held3 (fun w' => w'.cell? ⟨b0, 4, none⟩ = some (.map (some bt)) ∧ w'.cell? ⟨w.heap.size, 0, none⟩ = some (.int .i64 op) ∧ w'.cell? ⟨w.heap.size, 1, none⟩ = some (.int .u64 client) ∧ w'.cell? ⟨w.heap.size, 2, none⟩ = some (.int .u64 seq) ∧ w'.cell? ⟨w.heap.size, 3, none⟩ = some (.int .i64 shard) ∧ w'.cell? ⟨w.heap.size, 4, none⟩ = some (.int .i64 segs) ∧ w'.cell? ⟨w.heap.size, 5, none⟩ = some (.int .u64 pos) ∧ w'.cell? ⟨w.heap.size, 6, none⟩ = some (.slice ao (List.length rs) cc) ∧ w'.cell? ⟨w2.heap.size, 0, none⟩ = some (.int .u64 client) ∧ w'.cell? ⟨w2.heap.size, 1, none⟩ = some (.int .u64 seq)) (first | exact hS5 | exact hS6 | go_keep)
        (first
          | (go_at_call 46; (with_reducible refine HDo.out.mono ?_)
             rintro e w5 ⟨rfl, D', n', lv', hf5, hn5, hm5⟩
             obtain ⟨s1, s2⟩ := HS.out w5 D' ((Keep.refl D W4).drew.trans hm5.keep)
             have k5 := s1.trans HH4.out.1
             have e5 := s2.trans HH4.out.2
             obtain ⟨_, _, _, _, c5, _⟩ := hf5.cell
             have hS5 : w5.cell? ⟨b0, 4, none⟩ = some (.map (some bt)) ∧ w5.cell? ⟨w.heap.size, 0, none⟩ = some (.int .i64 op) ∧ w5.cell? ⟨w.heap.size, 1, none⟩ = some (.int .u64 client) ∧ w5.cell? ⟨w.heap.size, 2, none⟩ = some (.int .u64 seq) ∧ w5.cell? ⟨w.heap.size, 3, none⟩ = some (.int .i64 shard) ∧ w5.cell? ⟨w.heap.size, 4, none⟩ = some (.int .i64 segs) ∧ w5.cell? ⟨w.heap.size, 5, none⟩ = some (.int .u64 pos) ∧ w5.cell? ⟨w.heap.size, 6, none⟩ = some (.slice ao (List.length rs) cc) ∧ w5.cell? ⟨w2.heap.size, 0, none⟩ = some (.int .u64 client) ∧ w5.cell? ⟨w2.heap.size, 1, none⟩ = some (.int .u64 seq) :=
               ⟨c5, World.news_of_block k5 0 _ rfl, World.news_of_block k5 1 _ rfl, World.news_of_block k5 2 _ rfl, World.news_of_block k5 3 _ rfl, World.news_of_block k5 4 _ rfl, World.news_of_block k5 5 _ rfl, World.news_of_block k5 6 _ rfl, World.news_of_block e5 0 _ rfl, World.news_of_block e5 1 _ rfl⟩
             obtain ⟨w6, hrun, hf6, hk6, hg6⟩ := hf5.tell hcl.1 hcl.2 (doE F ⟨op, client, seq, shard, segs, pos, rs⟩) (by omega)
             have hbt := H.out.lt bt H.out.dt
             have hsz5 : W4.heap.size ≤ w5.heap.size := hm5.keep.size
             have k6 := (hk6.block w.heap.size (by omega) (by omega)).trans k5
             have e6 := (hk6.block w2.heap.size (by omega) (by omega)).trans e5
             obtain ⟨_, _, _, _, c6, _⟩ := hf6.cell
             have hS6 : w6.cell? ⟨b0, 4, none⟩ = some (.map (some bt)) ∧ w6.cell? ⟨w.heap.size, 0, none⟩ = some (.int .i64 op) ∧ w6.cell? ⟨w.heap.size, 1, none⟩ = some (.int .u64 client) ∧ w6.cell? ⟨w.heap.size, 2, none⟩ = some (.int .u64 seq) ∧ w6.cell? ⟨w.heap.size, 3, none⟩ = some (.int .i64 shard) ∧ w6.cell? ⟨w.heap.size, 4, none⟩ = some (.int .i64 segs) ∧ w6.cell? ⟨w.heap.size, 5, none⟩ = some (.int .u64 pos) ∧ w6.cell? ⟨w.heap.size, 6, none⟩ = some (.slice ao (List.length rs) cc) ∧ w6.cell? ⟨w2.heap.size, 0, none⟩ = some (.int .u64 client) ∧ w6.cell? ⟨w2.heap.size, 1, none⟩ = some (.int .u64 seq) :=
               ⟨c6, World.news_of_block k6 0 _ rfl, World.news_of_block k6 1 _ rfl, World.news_of_block k6 2 _ rfl, World.news_of_block k6 3 _ rfl, World.news_of_block k6 4 _ rfl, World.news_of_block k6 5 _ rfl, World.news_of_block k6 6 _ rfl, World.news_of_block e6 0 _ rfl, World.news_of_block e6 1 _ rfl⟩
             have HF6 := Lib.hid hf6
             have HK6 := Lib.hid hk6
             have HM5 := Lib.hid hm5
             clear hf5 hf6 hk6 hg6 hm5 s1 s2 k5 e5 c5 k6 e6 c6))
      obtain ⟨c6, _, _, _, _, _, _, _, v0, v1⟩ := hS6
      have hlo6 : ∀ n, (Instr.lookup 87 (.map (some bt)) (.agg #[.int .u64 client, .int .u64 seq]) false).run Try.prog (w6.drewN n) = .ok (.int .i64 (doE F ⟨op, client, seq, shard, segs, pos, rs⟩)) (w6.drewN n) := fun n => by
        obtain ⟨g, hg, hgv⟩ := HF6.out.told
        have := (hg.same (show (w6.drewN n).heap[bt]? = w6.heap[bt]? from rfl)).look whoKeyed Try.underlying87 (zeroErrno (w6.drewN n)) (wk_of hcl.1 hcl.2)
        rw [hgv] at this
        have h1 : (tellF (doF F ⟨op, client, seq, shard, segs, pos, rs⟩) client seq (doE F ⟨op, client, seq, shard, segs, pos, rs⟩)).told client seq = some (doE F ⟨op, client, seq, shard, segs, pos, rs⟩) := by
          unfold tellF; simp
        rw [h1] at this
        exact this
      clear hS5 hrun c4 o0 o1 o2 o3 o4 o5 o6 u0 u1
      go_wp2_with fail
      go_quiet (fail)
      go_wp2_with fail
      go_ret
      rw [HAE.out, HAF.out]
      have hmB : Moved D D w W4.drew := Moved.of (Below.keep0 D HB4.out.drew)
      have hm6 : Moved D D' w (w6.drewN nq) := (hmB.trans HM5.out).trans (Moved.of (HK6.out.mono (fun k _ e => by subst e; exact HF6.out.dt)) |>.trans (Moved.of (Below.keep0 D' (below_drewN (Below.refl _ _) nq))))
      exact ⟨rfl, D', ⟨b0, bs, bt, n' + 1, lv', rfl, HF6.out.below (below_drewN (Below.refl _ _) nq) (Nat.le_refl _), by omega⟩, hm6⟩
end Go.Proofs.Ytabanackdjlcmaa
