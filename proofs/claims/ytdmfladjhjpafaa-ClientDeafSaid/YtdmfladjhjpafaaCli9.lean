/-
  Package client: Begin, where the call may be.
-/
import Derived.Test.YtdmfladjhjpafaaCli8
namespace Go.Proofs.Ytdmfladjhjpafaa
open Go.ChangeShapes Go.WideShapes Go.ChangeAt Go.RowKit Go.Maps
set_option maxRecDepth 1000000

def lastL (A : CS) : CS := ⟨A.id, A.last + 1, A.shards, A.orders, A.l⟩
theorem CliR.setLast {D : Nat → Prop} {w : World} {b0 bm N : Nat} {A : CS} (h : CliR w D b0 bm N A) (hl : A.last < 1000000) :
    CliR (w.setCell ⟨b0, 1, none⟩ (.int .u64 (A.last + 1))) D b0 bm N (lastL A) ∧ Keep (fun k => k = b0) w (w.setCell ⟨b0, 1, none⟩ (.int .u64 (A.last + 1))) := by
  obtain ⟨rv, ov, g1, g2, g3, g4⟩ := h.cells
  have hk : Keep (fun k => k = b0) w (w.setCell ⟨b0, 1, none⟩ (.int .u64 (A.last + 1))) := Keep.setCell (S := fun k => k = b0) (Keep.refl _ _) (p := ⟨b0, 1, none⟩) (Or.inl rfl) _
  have hS : ∀ k, k = b0 → D k → CR b0 bm k := fun k e _ => Or.inl e
  refine ⟨⟨⟨rv, ov, by simpa [lastL] using heap_setCell_same w b0 1 _ _ (.int .u64 (A.last + 1)) g1, g2.keep hk hS (fun _ h => h) (fun _ _ h => h), g3.keep hk (fun k hk' e => (g4 k hk').2 (Or.inl e)), g4⟩, fun k hd => Nat.lt_of_lt_of_le (h.lt k hd) hk.size, h.dr, h.ne,
    h.map.keep hk hS (fun e => h.ne e) (fun _ h => h) (fun _ _ h => h) (Nat.le_refl _) |> fun m => ⟨m.at_, m.small⟩, ⟨h.num.1, ?_, ?_⟩, h.ord⟩, hk⟩
  · show 0 ≤ A.last + 1
    have := h.num.2.1; omega
  · show A.last + 1 ≤ 1000000
    omega
def begL (A : CS) (x : Cl) (m : Int) : CS := setL (lastL A) (A.last + 1) (some (x, m))
theorem setL_twice (A : CS) (seq : Int) (u v : Option (Cl × Int)) : setL (setL A seq u) seq v = setL A seq v := by
  unfold setL
  simp only [CS.mk.injEq, true_and]
  funext a
  by_cases e : a = seq
  · rw [if_pos e, if_pos e]
  · rw [if_neg e, if_neg e, if_neg e]
/-- A number, one message, no error. -/
def RetBg (D : Nat → Prop) (b0 bm N : Nat) (A : CS) (x : Cl) (w : World) (e : Ending) (w' : World) : Prop :=
  ∃ g bv D', e = .returned (.tuple #[.int .u64 (A.last + 1), .slice (some ⟨g, 0, none⟩) 1 1, .int .i64 0]) ∧ w'.heap[g]? = some (.cells (outC (askTo A x 0) (askMs A.id (A.last + 1) x) (.slice none 0 0) bv) 48 (0, 0)) ∧ w.heap.size ≤ g ∧ ¬ D' g ∧
    CliR w' D' b0 bm (N + 2) (begL A x 1) ∧ Moved D D' w w' ∧ SlR w' bv (u8s (askMs A.id (A.last + 1) x).body) ∧ ∀ k, bv.ownBlock = some k → D' k ∧ ¬ CR b0 bm k
set_option maxHeartbeats 4000000 in
theorem cbegin_ok {D : Nat → Prop} {w : World} {b0 bm N : Nat} {A : CS} (h : CliR w D b0 bm N A) {x : Cl} {sv : Value} (hsl : SlR w sv (u8s x.body)) (hok : ClOk A.shards x) (hb : x.body = [] ∨ x.op = 1) (hp : x.pos = 0 ∨ x.op = 2 ∨ x.op = 5) (hth : x.op ≤ 2 → thereB A.shards x = true) (hN : N + 2 < 1000000) (hL : A.last < 1000000) :
    Calls Try.prog 8 #[.pointer (some ⟨b0, 0, none⟩), .agg (clC x sv)] w (RetBg D b0 bm N A x w) := by
  have hb1 := below_lit w (.cells (clC x sv) 35)
  have HM := Lib.hid (cmay_ok (x := x) (hsl.below hb1 (Nat.le_refl _)) hok.op hok.sh hok.sg hb hp)
  have H := Lib.hid h
  have HSl := Lib.hid hsl
  have HOk := Lib.hid hok
  have HTh := Lib.hid hth
  have HB1 := Lib.hid hb1
  have hb0 := h.lt b0 (h.dr _ (Or.inl rfl))
  have hlen := hok.len
  have hop := hok.op
  obtain ⟨op, sh, sg, pos, body⟩ := x
  obtain ⟨so, sc, rfl, hsc1, hsc2⟩ := hsl.form
  simp only [List.length_map] at *
  have e1 := heap_alloc_new w (.cells (clC ⟨op, sh, sg, pos, body⟩ (.slice so body.length sc)) 35)
  have HE1 := Lib.hid e1
  have hld := (by decide : (1024 : Int) ≤ 1024)
  have hle : decide ((1024 : Int) < (body.length : Int)) = false := decide_eq_false (by omega)
  clear h hsl hok hb hp hth hb1 e1 hld
  go_enter Try.func8, Try.ntmps8
  go_wp2_with fail
  refine HM.out.mono ?_
  rintro e w2 ⟨rfl, hb2⟩
  have e2 := (hb2.block w.heap.size (by simp)).trans HE1.out
  have q0 : w2.cell? ⟨w.heap.size, 0, none⟩ = some (.int .i64 op) := World.news_of_block e2 0 _ rfl
  have q1 : w2.cell? ⟨w.heap.size, 1, none⟩ = some (.int .i64 sh) := World.news_of_block e2 1 _ rfl
  have q2 : w2.cell? ⟨w.heap.size, 2, none⟩ = some (.int .i64 sg) := World.news_of_block e2 2 _ rfl
  have q3 : w2.cell? ⟨w.heap.size, 3, none⟩ = some (.int .u64 pos) := World.news_of_block e2 3 _ rfl
  have q4 : w2.cell? ⟨w.heap.size, 4, none⟩ = some (.slice so body.length sc) := World.news_of_block e2 4 _ rfl
  have HB2 := Lib.hid (HB1.out.trans (hb2.mono (by simp)))
  have HT2 := Lib.hid (cthere_any (x := ⟨op, sh, sg, pos, body⟩) (sv := .slice so body.length sc) (H.out.below HB2.out (Nat.le_refl _)) HOk.out.sh.1)
  have hz2 : w.heap.size + 1 ≤ w2.heap.size := by have := hb2.size; simp at this; omega
  have HE2 := Lib.hid e2
  clear hb2 e2
  go_upto_region 5 with fail
  go_cut [20] (fun s20 wx => s20 = .bool false ∧ Below w2.heap.size w2 wx)
  case first =>
    by_cases h2 : op ≤ 2
    · have ht := HTh.out h2
      rw [ht] at HT2
      clear ht
      go_wp2_with fail
      refine HT2.out.mono ?_
      rintro e w3 ⟨rfl, hb3⟩
      go_wp2_with fail
      go_meet
      exact ⟨rfl, hb3⟩
    · have hd : decide (op ≤ 2) = false := decide_eq_false h2
      go_wp2_with fail
      go_meet
      exact ⟨rfl, Below.refl _ _⟩
  case rest =>
    obtain ⟨rfl, hbc⟩ := hcut
    have e2 := (hbc.block w.heap.size (by omega)).trans HE2.out
    have q4 : wc.cell? ⟨w.heap.size, 4, none⟩ = some (.slice so body.length sc) := World.news_of_block e2 4 _ rfl
    have HE2c := Lib.hid e2
    have HBc := Lib.hid (HB2.out.trans (hbc.mono HB2.out.size))
    have HC := Lib.hid (cloneB_any (HSl.out.below HBc.out (Nat.le_refl _)) (by omega))
    have hzc : w.heap.size + 1 ≤ wc.heap.size := by have := hbc.size; omega
    clear hbc e2
    go_upto_region 8 with (first
      | (refine HC.out.mono ?_
         rintro e w4 ⟨v4, rfl, hown4, hb4⟩
         obtain ⟨vo, vc, rfl, _, _⟩ := own_form hown4
         have e4 := (hb4.block w.heap.size (by omega)).trans HE2c.out
         have q4 : w4.cell? ⟨w.heap.size, 4, none⟩ = some (.slice so body.length sc) := World.news_of_block e4 4 _ rfl
         have y4 : w4.frozen? ⟨w.heap.size, 4, none⟩ = false := by simp [World.frozen?, e4]
         have HE4 := Lib.hid e4
         have HO4 := Lib.hid hown4
         have HB4 := Lib.hid hb4
         clear e4 hown4 hb4)
      | fail)
    obtain ⟨W5, HW5⟩ : ∃ x, x = w4.setCell ⟨w.heap.size, 4, none⟩ (.slice vo body.length vc) := ⟨_, rfl⟩
    rw [← HW5]
    have hk5 : Keep (fun k => k = w.heap.size) w4 W5 := by rw [HW5]; exact Keep.setCell (S := fun k => k = w.heap.size) (Keep.refl _ _) (p := ⟨w.heap.size, 4, none⟩) (Or.inl rfl) _
    have e5 : W5.heap[w.heap.size]? = some (.cells (clC ⟨op, sh, sg, pos, body⟩ (.slice vo body.length vc)) 35 (0, 0)) := by
      rw [HW5]
      simpa using heap_setCell_same w4 w.heap.size 4 _ _ (.slice vo body.length vc) HE4.out
    have hb4w := HBc.out.trans (HB4.out.mono HBc.out.size)
    have hz4 : w.heap.size + 1 ≤ w4.heap.size := by have := HB4.out.size; omega
    have hz5 : w4.heap.size = W5.heap.size := by rw [HW5]; simp
    have hb5 : Below w.heap.size w W5 := hb4w.trans (hk5.below (by omega) (fun k e => by omega))
    have hvo : ∀ k, (Value.slice vo body.length vc).ownBlock = some k → wc.heap.size ≤ k ∧ k < W5.heap.size := fun k hk => by have := HO4.out.lt k hk; omega
    have hDlt := H.out.lt
    have hR5 : CliR W5 (fun k => D k ∨ (Value.slice vo body.length vc).ownBlock = some k) b0 bm N A := (H.out.below hb5 (Nat.le_refl _)).mono (fun k hd => Or.inl hd) (fun k hd => by
      rcases hd with hd | hd
      · have := hDlt k hd; omega
      · exact (hvo k hd).2)
    have hsl5 : SlR W5 (.slice vo body.length vc) (u8s body) := (SlR.of_own HO4.out).keep hk5 (fun k hk e => by have := hvo k hk; omega)
    have HB5 := Lib.hid hb5
    have HE5 := Lib.hid e5
    have HR5 := Lib.hid hR5
    have HSl5 := Lib.hid hsl5
    have HVo := Lib.hid hvo
    obtain ⟨_, _, ⟨-, c1, -, -, -⟩, hfr, -⟩ := hR5.cell
    have y1 := hfr 1
    have hwl : IntKind.u64.wrap (A.last + 1) = A.last + 1 := IntWalk.u64_in _ (by have := H.out.num.2.1; omega)
    clear hk5 e5 hb4w hb5 hR5 hsl5 hfr HW5 hvo
    go_upto_region 9 with fail
    obtain ⟨W6, HW6⟩ : ∃ x, x = W5.setCell ⟨b0, 1, none⟩ (.int .u64 (A.last + 1)) := ⟨_, rfl⟩
    rw [← HW6]
    obtain ⟨hR6, hk6⟩ := HR5.out.setLast hL
    rw [← HW6] at hR6 hk6
    have hz6 : W5.heap.size = W6.heap.size := by rw [HW6]; simp
    clear HW6 c1 y1 hwl
    have e6 := (hk6.block w.heap.size (by omega) (by omega)).trans HE5.out
    have hsl6 : SlR W6 (.slice vo body.length vc) (u8s body) := HSl5.out.keep hk6 (fun k hk e => by have := HVo.out k hk; omega)
    have hvc : ∀ k, (Value.slice vo body.length vc).ownBlock = some k → (fun k => D k ∨ (Value.slice vo body.length vc).ownBlock = some k) k ∧ ¬ CR b0 bm k := fun k hk => ⟨Or.inr hk, fun hr => by
      have h1 := HVo.out k hk
      have h2 := H.out.lt k (H.out.dr k hr)
      omega⟩
    have hul : U1 (A.last + 1) := by have := H.out.num.2.1; constructor <;> omega
    obtain ⟨W7, hrun, hR7, hk7, hg7⟩ := CliR.store (w := W6.drew) (m := 0) (x := ⟨op, sh, sg, pos, body⟩) (sv := .slice vo body.length vc) (hR6.below (Below.refl _ _).drew (Nat.le_refl _)) hul (hsl6.below (Below.refl _ _).drew (Nat.le_refl _)) hvc HOk.out (by omega) (by omega)
    have HR7 := Lib.hid hR7
    have HK7 := Lib.hid hk7
    have HK6 := Lib.hid hk6
    obtain ⟨_, _, ⟨-, c1, -, -, c4⟩, -⟩ := hR6.cell
    have q1' : W6.cell? ⟨b0, 1, none⟩ = some (.int .u64 (A.last + 1)) := c1
    clear c1
    have q0 : W6.cell? ⟨w.heap.size, 0, none⟩ = some (.int .i64 op) := World.news_of_block e6 0 _ rfl
    have q1 : W6.cell? ⟨w.heap.size, 1, none⟩ = some (.int .i64 sh) := World.news_of_block e6 1 _ rfl
    have q2 : W6.cell? ⟨w.heap.size, 2, none⟩ = some (.int .i64 sg) := World.news_of_block e6 2 _ rfl
    have q3 : W6.cell? ⟨w.heap.size, 3, none⟩ = some (.int .u64 pos) := World.news_of_block e6 3 _ rfl
    have q4 : W6.cell? ⟨w.heap.size, 4, none⟩ = some (.slice vo body.length vc) := World.news_of_block e6 4 _ rfl
    have hbm := H.out.lt bm (H.out.dr _ (Or.inr rfl))
    have hne := H.out.ne
    have r4 := hg7.cell (a := ⟨b0, 4, none⟩) c4 (by simp; omega)
    have r1' := hg7.cell (a := ⟨b0, 1, none⟩) q1' (by simp; omega)
    have r0 := hg7.cell (a := ⟨w.heap.size, 0, none⟩) q0 (by simp; omega)
    have r1 := hg7.cell (a := ⟨w.heap.size, 1, none⟩) q1 (by simp; omega)
    have r2 := hg7.cell (a := ⟨w.heap.size, 2, none⟩) q2 (by simp; omega)
    have r3 := hg7.cell (a := ⟨w.heap.size, 3, none⟩) q3 (by simp; omega)
    have r5 := hg7.cell (a := ⟨w.heap.size, 4, none⟩) q4 (by simp; omega)
    have HVc := Lib.hid hvc
    have HR6 := Lib.hid hR6
    clear hR6
    clear e6 hsl6 hR7 hk7 hg7 hk6 hvc
    go_region_held3 (fun w' => w'.cell? ⟨b0, 4, none⟩ = some (.map (some bm)) ∧ w'.cell? ⟨b0, 1, none⟩ = some (.int .u64 (A.last + 1)) ∧ w'.cell? ⟨w.heap.size, 0, none⟩ = some (.int .i64 op) ∧ w'.cell? ⟨w.heap.size, 1, none⟩ = some (.int .i64 sh) ∧ w'.cell? ⟨w.heap.size, 2, none⟩ = some (.int .i64 sg) ∧ w'.cell? ⟨w.heap.size, 3, none⟩ = some (.int .u64 pos) ∧ w'.cell? ⟨w.heap.size, 4, none⟩ = some (.slice vo body.length vc)) (first | go_keep)
      (first | fail)
    have hz7 := HK7.out.size
    have hz7 : W5.heap.size ≤ W7.heap.size := by simp at hz7; omega
    have HA := Lib.hid (cask_any (HR7.out.below (Below.refl _ _).drew (Nat.le_refl _)) (seq := A.last + 1) (x := ⟨op, sh, sg, pos, body⟩) (m := 0) (by simp [setL]) (by omega) (by omega))
    clear q0 q1 q2 q3 q4 q1' c4 r0 r1 r2 r3 r4 r5 hrun
    go_wp2_with fail
    go_region_held3 (fun w' => w'.cell? ⟨b0, 1, none⟩ = some (.int .u64 (A.last + 1))) (first | go_keep)
      (first
        | (go_at_call 19; (with_reducible refine HA.out.mono ?_)
           rintro e w8 ⟨bv, rfl, hR8, hm8, hs8, ho8⟩
           obtain ⟨_, _, ⟨-, r1'', -, -, -⟩, -⟩ := hR8.cell
           have r1a : w8.cell? ⟨b0, 1, none⟩ = some (.int .u64 (A.last + 1)) := r1''
           clear r1''
           have HR8 := Lib.hid hR8
           have HM8 := Lib.hid hm8
           have HS8 := Lib.hid hs8
           have HO8 := Lib.hid ho8
           clear hR8 hm8 hs8 ho8))
    go_wp2_with fail
    go_ret3
    have hR8 := HR8.out
    rw [setL_twice] at hR8
    have hz8 : W7.heap.size ≤ w8.heap.size := HM8.out.keep.size
    have hk0 : Keep (fun k => D k ∨ w.heap.size ≤ k) w w8 := by
      refine ((((Below.keep0 _ HB5.out).trans (HK6.out.mono (fun k _ e => Or.inl (by subst e; exact H.out.dr _ (Or.inl rfl))))).drew).trans (HK7.out.mono (fun k _ e => Or.inl (by subst e; exact H.out.dr _ (Or.inr rfl))))).drew.trans (HM8.out.keep.mono (fun k _ hd => ?_))
      rcases hd with hd | hd
      · exact Or.inl hd
      · exact Or.inr (by have := HVo.out k hd; omega)
    refine ⟨w8.heap.size, bv, _, rfl, heap_alloc_new w8 _, by omega, fun hd => ?_, hR8.below ((Below.refl _ _).alloc (Nat.le_refl _) _) (Nat.le_refl _), ⟨?_, fun k hd => Or.inl hd, fun k hd => ?_⟩, HS8.out.below ((Below.refl _ _).alloc (Nat.le_refl _) _) (Nat.le_refl _), HO8.out⟩
    · have := HR8.out.lt _ hd; omega
    · exact (hk0.mono (fun k hk' h => h.resolve_right (by omega))).alloc _
    · rcases hd with hd | hd
      · exact Or.inl hd
      · exact Or.inr (by have := HVo.out k hd; omega)
end Go.Proofs.Ytdmfladjhjpafaa
