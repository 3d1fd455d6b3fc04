/-
  Law 17: awake.
-/
import Derived.Test.YtgmdedkingampaaGreatPxZa
import Derived.Lib.SlBytesConst
set_option linter.unusedVariables false
set_option linter.unusedSimpArgs false
namespace Go.Proofs.YtgmdedkingampaaGreat
open Go.ChangeShapes Go.WideShapes Go.ChangeAt Go.RowKit Go.Maps
set_option maxRecDepth 1000000
set_option linter.unusedVariables false
set_option linter.unusedSimpArgs false

section
variable {W w w' : World} {os : List Ob}
theorem Clu.one {c : Nat} {dv nv : Value} {qs : List NdA} {x : Nd} {ms : List (Int × Om)} (h : Clu W w os c dv nv qs [x] ms) : ∃ q f mv M B, SepW W w (clOs c dv nv mv [(q, f, x)] M B os) ∧ (∀ p ∈ M, (p.2.2, p.2.1.body) ∈ B) ∧ mOf M = ms ∧ qs = [q] := by
  obtain ⟨mv, L, M, B, h1, h2, h3, h4, h5⟩ := h
  cases L with
  | nil => cases h4
  | cons p r =>
    cases r with
    | nil =>
      obtain ⟨q, f, x'⟩ := p
      obtain rfl : x' = x := by simpa [xOf] using h4
      exact ⟨q, f, mv, M, B, h1, h2, h5, by simpa using h3.symm⟩
    | cons p2 r2 => simp [xOf] at h4
theorem lt3 {r : Nat} (h : r < 3) : r = 0 ∨ r = 1 ∨ r = 2 := by omega
theorem aw_calm3 {c : Nat} {dv nv : Value} {qs : List NdA} {xs0 : List Nd} {ms0 : List (Int × Om)} (h : Clu W w os c dv nv qs xs0 ms0) (h0 : PA 2 xs0 ms0) :
    Calls Tryz.prog 10 #[.pointer (some ⟨c, 0, none⟩), .int .i64 3] w fun e w' => e = .returned (.tuple #[]) ∧ ∃ xs ms, Clu W w' os c dv nv qs xs ms ∧ PC xs ms := by
  have hx : xs0.length = 1 := by obtain ⟨x, rfl, _⟩ := h0; rfl
  refine cl_calm (Mb := 100) (n := 1) 3 (by omega) (by omega) awJ awT awD ?_ ?_ ?_ ?_ ?_ ?_ ?_ h hx h0
  · intro r xs ms hr h1
    rcases lt3 hr with rfl | rfl | rfl <;> exact h1
  · intro r i xs ms x y outs hr h1 hx ht _
    have hno : xs.length = 1 → i = 1 → False := fun hl hi => by
      subst hi
      have := (List.getElem?_eq_some_iff.1 hx).1
      omega
    rcases lt3 hr with rfl | rfl | rfl
    · match i, h1, hx, hno with
      | 0, h1, hx, _ => exact PA_tick h1 hx ht
      | 1, h1, hx, hno => exact (hno (PA_ok (by decide) h1).n rfl).elim
    · match i, h1, hx, hno with
      | 0, h1, hx, _ => exact PA_stand h1 hx ht
      | 1, h1, hx, hno => exact (hno (PB_ok awPrep_ok h1).n rfl).elim
    · match i, h1, hx, hno with
      | 0, h1, hx, _ => exact PC_tick h1 hx ht
      | 1, h1, hx, hno => exact (hno (PC_ok h1).n rfl).elim
  · intro r xs ms hr h1
    rcases lt3 hr with rfl | rfl | rfl <;> exact h1
  · intro r k xs ms xs' ms' hr hk hm h1 hd _
    rcases lt3 hr with rfl | rfl | rfl
    · match k, h1 with
      | 0, h1 => obtain ⟨x, _, _, _, h2⟩ := h1; exact absurd h2 hm
    · match k, h1 with
      | 0, h1 => exact PB_prep h1 hd
      | 1, h1 => exact PB_prom h1 hd
      | 2, h1 => obtain ⟨x, L, _, _, _, _, _, h2⟩ := h1; exact absurd h2 hm
    · match k, h1 with
      | 0, h1 => obtain ⟨x, L, _, _, _, _, _, h2⟩ := h1; exact absurd h2 hm
  · intro r k xs ms hr h1 hk
    rcases lt3 hr with rfl | rfl | rfl
    · match k, h1 with
      | 0, h1 => exact h1
    · match k, h1, hk with
      | 0, h1, hk => obtain ⟨x, _, _, _, h2⟩ := h1; rcases hk with hk | hk; (cases hk); rw [h2] at hk; cases hk
      | 1, h1, hk => obtain ⟨x, _, _, _, h2⟩ := h1; rcases hk with hk | hk; (cases hk); rw [h2] at hk; cases hk
      | 2, h1, hk => exact h1
    · match k, h1 with
      | 0, h1 => exact h1
  · intro r i xs ms h1
    match r, i, h1 with
    | 0, 0, h1 => exact PA_ok (by decide) h1
    | 0, 1, h1 => exact PA_ok (by decide) h1
    | 1, 0, h1 => exact PA_ok (by decide) h1
    | 1, 1, h1 => exact PB_ok awPrep_ok h1
    | 2, 0, h1 => exact PC_ok h1
    | 2, 1, h1 => exact PC_ok h1
  · intro r i xs ms h1
    match r, i, h1 with
    | 0, 0, h1 => exact PA_ok (by decide) h1
    | 1, 0, h1 => exact PB_ok awPrep_ok h1
    | 1, 1, h1 => exact PB_ok awProm_ok h1
    | 1, 2, h1 => exact PC_ok h1
    | 2, 0, h1 => exact PC_ok h1
theorem two_ok {a b : Om} (ha : OmOk 100 a) (hb : OmOk 100 b) : ∀ o ∈ [a, b], OmOk 100 o := by
  intro o ho
  simp only [List.mem_cons, List.not_mem_nil, or_false] at ho
  rcases ho with rfl | rfl
  · exact ha
  · exact hb
theorem one_ok {a : Om} (ha : OmOk 100 a) : ∀ o ∈ [a], OmOk 100 o := by
  intro o ho
  obtain rfl : o = a := by simpa using ho
  exact ha
theorem aw_calm1 {c : Nat} {dv nv : Value} {qs : List NdA} {xs0 : List Nd} {ms0 : List (Int × Om)} (h : Clu W w os c dv nv qs xs0 ms0) (h0 : PE 0 [awAcc] xs0 ms0) :
    Calls Tryz.prog 10 #[.pointer (some ⟨c, 0, none⟩), .int .i64 1] w fun e w' => e = .returned (.tuple #[]) ∧ ∃ xs ms, Clu W w' os c dv nv qs xs ms ∧ PG [] xs ms := by
  have hx : xs0.length = 1 := by obtain ⟨x, A, L, m, rfl, _⟩ := h0; rfl
  have hz : ∀ {r : Nat}, r < 1 → r = 0 := fun h => by omega
  refine cl_calm (Mb := 100) (n := 1) 1 (by omega) (by omega) aw2J aw2T aw2D ?_ ?_ ?_ ?_ ?_ ?_ ?_ h hx h0
  · intro r xs ms hr h1
    obtain rfl := hz hr
    exact h1
  · intro r i xs ms x y outs hr h1 hx ht _
    obtain rfl := hz hr
    match i, h1, hx with
    | 0, h1, hx => exact PE_tick h1 hx ht
    | 1, h1, hx =>
      exfalso
      have h2 := (PE_ok (by decide) (two_ok awAcc_ok awAcc_ok) (by decide) h1).n
      have h3 := (List.getElem?_eq_some_iff.1 hx).1
      omega
  · intro r xs ms hr h1
    obtain rfl := hz hr
    exact h1
  · intro r k xs ms xs' ms' hr hk hm h1 hd _
    obtain rfl := hz hr
    match k, h1 with
    | 0, h1 => exact PE_acc (by decide) (by decide) h1 hd
    | 1, h1 => exact PE_acc (by decide) (by decide) h1 hd
    | 2, h1 => exact PE_cnt h1 hd
    | 3, h1 => exact PG_cnt h1 hd
    | 4, h1 => exact PG_lrn h1 hd
    | 5, h1 => obtain ⟨x, A, L, m, _, _, _, _, _, _, _, h2⟩ := h1; exact absurd h2 hm
  · intro r k xs ms hr h1 hk
    obtain rfl := hz hr
    match k, h1, hk with
    | 0, h1, hk => obtain ⟨x, A, L, m, _, _, _, _, _, _, _, _, h2⟩ := h1; rcases hk with hk | hk; (cases hk); rw [h2] at hk; cases hk
    | 1, h1, hk => obtain ⟨x, A, L, m, _, _, _, _, _, _, _, _, h2⟩ := h1; rcases hk with hk | hk; (cases hk); rw [h2] at hk; cases hk
    | 2, h1, hk => obtain ⟨x, A, L, m, _, _, _, _, _, _, _, _, h2⟩ := h1; rcases hk with hk | hk; (cases hk); rw [h2] at hk; cases hk
    | 3, h1, hk => obtain ⟨x, A, L, m, _, _, _, _, _, _, _, h2⟩ := h1; rcases hk with hk | hk; (cases hk); rw [h2] at hk; cases hk
    | 4, h1, hk => obtain ⟨x, A, L, m, _, _, _, _, _, _, _, h2⟩ := h1; rcases hk with hk | hk; (cases hk); rw [h2] at hk; cases hk
    | 5, h1, hk => exact h1
  · intro r i xs ms h1
    match r, i, h1 with
    | 0, 0, h1 => exact PE_ok (by decide) (one_ok awAcc_ok) (by decide) h1
    | 0, 1, h1 => exact PE_ok (by decide) (two_ok awAcc_ok awAcc_ok) (by decide) h1
  · intro r i xs ms h1
    match r, i, h1 with
    | 0, 0, h1 => exact PE_ok (by decide) (two_ok awAcc_ok awAcc_ok) (by decide) h1
    | 0, 1, h1 => exact PE_ok (by decide) (two_ok awAcc_ok awAcd_ok) (by decide) h1
    | 0, 2, h1 => exact PE_ok (by decide) (two_ok awAcd_ok awAcd_ok) (by decide) h1
    | 0, 3, h1 => exact PG_ok (two_ok awAcd_ok awLrn_ok) (by decide) h1
    | 0, 4, h1 => exact PG_ok (one_ok awLrn_ok) (by decide) h1
    | 0, 5, h1 => exact PG_ok (by intro o ho; cases ho) (by decide) h1
end
end Go.Proofs.YtgmdedkingampaaGreat

namespace Go.Proofs.YtgmdedkingampaaGreat
open Go.ChangeShapes Go.WideShapes Go.ChangeAt Go.RowKit Go.Maps
set_option maxRecDepth 1000000
set_option linter.unusedVariables false
set_option linter.unusedSimpArgs false

theorem newNd_S1 : S1 (newNd 0 (psN 1) 400 400 2) 400 0 emptyAS (newLS 1) 2 0 := by
  refine ⟨⟨rfl, rfl, rfl, rfl, rfl, ?_, by decide, by decide⟩, rfl, rfl, rfl, rfl, rfl, rfl, rfl, by decide, by decide, by decide⟩
  show 0 + 400 ≤ (List.replicate 400 zeroB).length
  rw [List.length_replicate]
  decide
theorem u8_x : U8 [120] := awAcc_ok.u8
theorem new_PA : PA 2 (newXs 1 1) [] := ⟨_, rfl, newNd_S1, ⟨rfl, rfl, rfl, rfl⟩, rfl⟩
theorem one_row {w : World} {base : Nat} {e : TypeId} {v : Value} {u : Value} (h : w.ownsRow base e 1 v 1 [u]) : ∃ g c, v = .slice (some ⟨g, 0, none⟩) 1 c ∧ w.cell? ⟨g, 0, none⟩ = some u := by
  rcases h.2 with ⟨_, h0⟩ | ⟨g, cap, _, rfl, _⟩
  · cases h0
  · exact ⟨g, cap, rfl, by rw [h.cellAt 0 (by decide)]; rfl⟩
theorem slr_blk {w : World} {b : Nat} {x : Int} {t : TypeId} {fr : Nat × Nat} (h : w.heap[b]? = some (.cells #[.int .u8 x] t fr)) : SlR w (.slice (some ⟨b, 0, none⟩) 1 1) (u8s [x]) := by
  refine ⟨some ⟨b, 0, none⟩, 1, rfl, Nat.le_refl _, by unfold maxLen; omega, fun j u hj => ⟨_, rfl, ?_⟩⟩
  have hj0 : j = 0 := by have := (List.getElem?_eq_some_iff.1 hj).1; simp at this; omega
  subst hj0
  obtain rfl : Value.int .u8 x = u := by simpa using hj
  rw [add_zero_off]
  simp [World.cell?, h]
theorem Held.blk {W : World} {os : List Ob} {b : Nat} {x : Int} {t : TypeId} {fr : Nat × Nat} (i : Nat) (hi : os[i]? = some (obBlk b (.cells #[.int .u8 x] t fr))) : Held W os (.slice (some ⟨b, 0, none⟩) 1 1) (u8s [x]) :=
  Held.ob i hi (fun w hw => slr_blk hw) (fun _ k hk => by cases hk; rfl)
set_option maxHeartbeats 4000000 in
theorem awake_any (w : World) : Calls Tryz.prog 8 #[] w fun e w' => e = .returned (.bool true) ∧ Below w.heap.size w w' := by
  have HM := Lib.hid (cl_made (SepW.nil (Below.refl w.heap.size w)) (n := 1) (by decide))
  rw [show ((1 : Nat) : Int) = 1 from rfl] at HM
  go_enter Tryz.func8, Tryz.ntmps8
  go_wp2_with fail
  refine HM.out.mono ?_
  rintro e w1 ⟨c, dv, nv, qs, rfl, hc1, hq1⟩
  have HC3 := Lib.hid (aw_calm3 hc1 new_PA)
  clear hc1 HM
  go_wp2_with fail
  refine HC3.out.mono ?_
  rintro e w2 ⟨rfl, xs2, ms2, hc2, x, L, rfl, hs, hl, hop, hz, rfl⟩
  obtain ⟨q, f, mv, M, B, h1, h2, h3, rfl⟩ := hc2.one
  obtain rfl : M = [] := by simpa [mOf] using h3
  obtain ⟨gn, nc, rfl, n0⟩ := one_row (h1.get 2 rfl : w2.ownsRow 0 31 1 nv 1 [.pointer (some ⟨q.x, 0, none⟩)])
  obtain ⟨-, -, c2, -, -⟩ := h1.clCell 0 rfl
  have hlit : SepW w (w2.alloc (.cells #[.int .u8 120] 5 (1, 2))) (obBlk w2.heap.size (.cells #[.int .u8 120] 5 (1, 2)) :: clOs c dv (.slice (some ⟨gn, 0, none⟩) 1 nc) mv [(q, f, x)] [] B []) := h1.new (below_lit w2 _) (obBlk_good ..) (heap_alloc_new w2 _) (fun k hk => by rw [show k = w2.heap.size from hk]; exact Nat.le_refl _)
  have hfoc := SepW.focus (pre := [_, _, _, _, _, _]) (L := [(q, f, x)]) (i := 0) (p := (q, f, x)) hlit rfl
  have HPr := Lib.hid (nd_propose hfoc (bv := .slice (some ⟨w2.heap.size, 0, none⟩) 1 1) (xs := [120]) (Held.blk 0 rfl) u8_x (by decide) (by have := hs.NL; show x.NL < 900000; omega) (by show x.ps.length ≤ 7; rw [hs.ps]; decide))
  have HS := Lib.hid hs
  have HLd := Lib.hid hl
  have HOp := Lib.hid hop
  have HZ := Lib.hid hz
  have hci : (w2.alloc (.cells #[.int .u8 120] 5)).cell? ⟨gn, 0, none⟩ = some (.pointer (some ⟨q.x, 0, none⟩)) := cell_alloc _ n0
  have kc := fun (w : World) (C : Array Value) (n c : Nat) => Lib.run_convert_bytes_const (P := Tryz.prog) w 27 5 C n c Tryz.underlying27 Tryz.underlying5
  clear hc2 h1 h2 h3 hlit hfoc HC3 hs hl hop hz
  go_wp2_with fail
  refine HPr.out.mono ?_
  rintro e w3 ⟨y, ms, er, hpr, v8, l8, f8, rfl, hl8, hs8⟩
  obtain ⟨g1, g2, g3, g4, rfl, rfl⟩ := prop_ok HS.out HLd.out.st (by rw [HLd.out.n]; decide) hpr
  have hb8 := SepW.back (fr := [_, _]) (pre := [_, _, _, _, _, _]) (L := [(q, f, x)]) (i := 0) (p := (q, f, x)) rfl (p' := (q, f8, y)) hs8
  have hl1 : l8.length = 1 := by have h9 := congrArg List.length hl8; rw [List.length_map] at h9; exact h9
  obtain ⟨ao8, c8, rfl, -, -⟩ := own_form (hb8.get 0 rfl : w3.ownsRow 0 85 12 v8 l8.length (outC l8))
  have hf8 : ∀ p ∈ l8, ∃ bo bc, p.2 = .slice bo p.1.body.length bc := fun p hp => bod_form (hb8.get 1 rfl : (obBod _).inv w3) (List.mem_map.2 ⟨p, hp, rfl⟩)
  have hq1 := hb8.pull 4 rfl
  have hq2 := hq1.pull 4 rfl
  have HSn := Lib.hid (cl_send (c := c) (n := 1) (s := 0) (dv := dv) (nv := .slice (some ⟨gn, 0, none⟩) 1 nc) (mv := mv) (v := .slice ao8 l8.length c8) (M := []) (l := l8) (ovs := []) hq2 hf8 (by decide))
  have HL8 := Lib.hid hl8
  have HG1 := Lib.hid g1
  have HG2 := Lib.hid g2
  have HG3 := Lib.hid g3
  have HG4 := Lib.hid g4
  rw [hl1] at HSn ⊢
  clear hs8 hb8 hf8 hq1 hq2 hl8 g1 g2 g3 g4 hpr HPr c2 hci n0
  go_wp2_with fail
  refine HSn.out.mono ?_
  rintro e w4 ⟨rfl, mv4, hs4⟩
  have ha := SepW.dropB (pre := [_, _, _, _]) (l := [_]) hs4
  have hfold := SepW.clFold (L := [(q, f, x)]) (i := 0) (p := (q, f, x)) (p' := (q, f8, y)) rfl rfl ha
  have hmo : mOf (sendM 0 l8 []) = [(0, awAcc)] := by
    rw [mOf_send, HL8.out, HLd.out.n, HLd.out.b]
    rfl
  have hclu : Clu w w4 [] c dv (.slice (some ⟨gn, 0, none⟩) 1 nc) [q] [y] [(0, awAcc)] := ⟨mv4, [(q, f8, y)], sendM 0 l8 [], _, hfold, (by
    intro p hp
    rcases List.mem_append.1 hp with hp | hp
    · cases hp
    · obtain ⟨r', hr', rfl⟩ := List.mem_map.1 hp
      exact List.mem_append_left _ (List.mem_map.2 ⟨r', List.mem_of_mem_take hr', rfl⟩)), rfl, rfl, hmo⟩
  have hPE : PE 0 [awAcc] [y] [(0, awAcc)] := by
    refine ⟨y, awA, _, 399, rfl, by decide, HG1.out, ⟨rfl, rfl, by intro a v hh; cases hh⟩, ⟨HLd.out.st, HLd.out.b, HLd.out.m, ?_, ?_⟩, HG2.out.trans HZ.out.kn, HG4.out.trans HZ.out.nl, by rw [HG3.out, HZ.out.NA]; exact Nat.le_refl _, rfl⟩
    · show (if (0 : Int) = L.next then some ((⟨L.next, L.ballot, [120]⟩ : Vt), fun _ => false) else L.op 0) = _
      rw [HLd.out.n, HLd.out.b]; rfl
    · intro a ha
      show (if a = L.next then some ((⟨L.next, L.ballot, [120]⟩ : Vt), fun _ => false) else L.op a) = none
      rw [HLd.out.n, if_neg ha]; exact HOp.out a
  have HC1 := Lib.hid (aw_calm1 hclu hPE)
  clear hs4 ha hfold hmo hclu hPE HSn
  go_wp2_with fail
  refine HC1.out.mono ?_
  rintro e w5 ⟨rfl, xs5, ms5, hc5, z, A5, L5, m5, rfl, k1, k2, k3, k4, k5, k6, rfl⟩
  obtain ⟨q5, f5, mv5, M5, B5, h1, h2, h3, h4⟩ := hc5.one
  obtain rfl : q = q5 := by simpa using h4
  have n5 : w5.cell? ⟨gn, 0, none⟩ = some (.pointer (some ⟨q.x, 0, none⟩)) := by
    have hr : w5.ownsRow 0 31 1 (.slice (some ⟨gn, 0, none⟩) 1 nc) 1 [.pointer (some ⟨q.x, 0, none⟩)] := h1.get 2 rfl
    rw [hr.cellAt 0 (by decide)]; rfl
  obtain ⟨-, -, c2, -, -⟩ := h1.clCell 0 rfl
  have hfoc := SepW.focus (pre := [_, _, _, _, _]) (L := [(q, f5, z)]) (i := 0) (p := (q, f5, z)) h1 rfl
  have HVl := Lib.hid (nd_value (x := z) hfoc (s := 0) u1_0)
  have HF := Lib.hid hfoc
  have hkn : z.kn 0 = some [120] := by rw [k6, Ln.putK_self]
  rw [hkn] at HVl
  have HK := Lib.hid (And.intro k2 (And.intro k4 k6))
  clear hc5 h1 h2 h3 h4 hfoc k1 k2 k3 k4 k5 k6 HC1
  go_wp2_with fail
  refine HVl.out.mono ?_
  rintro e w6 ⟨vv, rfl, hs6, hb6⟩
  obtain ⟨vo, vc, rfl, -, -⟩ := own_form (hs6.get 0 rfl : w6.ownsRow 0 5 1 vv ((some [120]).getD []).length (u8s ((some [120]).getD [])))
  have n6 := (hb6.cell (World.block_lt_of_cell? _ _ n5)).trans n5
  have c6 := (hb6.cell (World.block_lt_of_cell? _ _ c2)).trans c2
  have hx1 : z.next = 1 := by
    obtain ⟨bm, top, hl⟩ : LnO q.l0 f5.ln z.nl w5 z.kn z.next := HF.out.get 4 rfl
    refine hl.next.unique ?_
    rw [HK.out.2.2]
    refine ⟨by decide, fun j h0 h1 => ?_, ?_⟩
    · obtain rfl : j = 0 := by omega
      rw [Ln.putK_self]; exact fun h => by cases h
    · rw [Ln.putK_ne _ _ _ _ (by decide)]
  have hx2 : z.e = 0 := HK.out.1.fine.e
  have HT := Lib.hid hs6.tail
  have HLe := Lib.hid (nd_leads HT.out)
  have HNe := Lib.hid (nd_next HT.out)
  have HEr := Lib.hid (nd_err HT.out)
  rw [HK.out.1.L, HK.out.2.1] at HLe
  rw [hx1] at HNe
  rw [hx2] at HEr
  have hcv : (convert 27 9 (.slice vo 1 vc)).run Tryz.prog w6 = .ok (.string ⟨#[120]⟩) w6 := (run_strB (P := Tryz.prog) (src := 27) (dst := 9) Tryz.underlying27 Tryz.underlying5 Tryz.underlying9 (hs6.row 0 rfl)).trans rfl
  have hbl := Lib.hid hs6.below
  clear hs6 HVl hb6 n5 c2
  go_wp2_with fail
  refine HLe.out.mono ?_
  rintro e w' ⟨rfl, rfl⟩
  go_wp2_with fail
  refine HNe.out.mono ?_
  rintro e w' ⟨rfl, rfl⟩
  go_wp2_with fail
  refine HEr.out.mono ?_
  rintro e w' ⟨rfl, rfl⟩
  go_wp2_with fail
  go_ret
  exact ⟨rfl, hbl.out⟩
end Go.Proofs.YtgmdedkingampaaGreat
