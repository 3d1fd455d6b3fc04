/-
  Package paxos: accept.
-/
import Derived.Test.YtgmdedkingampaaGreatPxG
import Derived.Test.YtgmdedkingampaaGreatGetX
set_option linter.unusedVariables false
set_option linter.unusedSimpArgs false
namespace Go.Proofs.YtgmdedkingampaaGreat
open Go.ChangeShapes Go.WideShapes Go.ChangeAt Go.RowKit Go.Maps
set_option maxRecDepth 1000000
set_option linter.unusedVariables false
set_option linter.unusedSimpArgs false

theorem AccO.keysLen {p : Value} {D : Nat → Prop} {w : World} {N : Nat} {A : AS} (h : AccO p D w N A) {ks : List Int} (hk : IsKeys A.l ks) : ks.length ≤ N := by
  obtain ⟨_, K, h4, h5⟩ := h
  exact Nat.le_trans (nodup_le (hk.1.imp (fun h => by omega)) (fun x hx => h5 x ((hk.2 x).1 hx))) h4
theorem AccO.small {p : Value} {D : Nat → Prop} {w : World} {N : Nat} {A : AS} (h : AccO p D w N A) {a : Int} {v : Vt} (hv : A.l a = some v) : U1 a ∧ VtOk a v := by
  obtain ⟨⟨b0, bm, n, _, h2, _⟩, _⟩ := h
  exact h2.map.small a v hv
theorem votL_mem {l : Int → Option Vt} {ks : List Int} {fr : Int} {v : Vt} (h : v ∈ votL l ks fr) : ∃ a, l a = some v ∧ fr ≤ a := by
  unfold votL at h
  obtain ⟨a, ha, hv⟩ := List.mem_filterMap.1 h
  exact ⟨a, hv, by simpa using (List.mem_filter.1 ha).2⟩
theorem votL_len (l : Int → Option Vt) (ks : List Int) (fr : Int) : (votL l ks fr).length ≤ ks.length :=
  Nat.le_trans (List.length_filterMap_le ..) (List.length_filter_le ..)
/-- A node that promised. -/
def promisedN (x : Nd) (b : Int) : Nd := { heardN x b with A := ⟨b, x.A.low, x.A.l⟩ }
def prepOut (y : Nd) (t b : Int) (bs : List Int) : List Om := if 32768 < bs.length then [] else allO [t] 8 b y.A.low bs
def prepF (x : Nd) (ks : List Int) (t b s : Int) : Nd × List Om :=
  if b < x.A.promised then (heardN x b, allO [t] 11 x.A.promised 0 [])
  else if x.A.promised < b then
    if (noteN (promisedN x b) (noteB 1 [b] none)).e = 0 then (noteN (promisedN x b) (noteB 1 [b] none), prepOut (noteN (promisedN x b) (noteB 1 [b] none)) t b (putV (votL x.A.l ks s)))
    else (noteN (promisedN x b) (noteB 1 [b] none), [])
  else (promisedN x b, prepOut (promisedN x b) t b (putV (votL x.A.l ks s)))
section
variable {W w w' : World} {os : List Ob} {q : NdA} {f : NdF} {x : Nd}
theorem SepW.dropB {pre l : List Ob} (h : SepW W w (pre ++ (l ++ os))) : SepW W w (pre ++ os) := h.sub (List.Sublist.append (List.Sublist.refl _) (List.sublist_append_right ..))
set_option maxHeartbeats 4000000 in
theorem nd_prepare (h : SepW W w (ndOs q f x os)) {k b s : Int} (o : Mo) (bv : Value) (t : Int) (ub : U1 b) (us : U1 s) (hN : x.NA ≤ 900) (hv : ∀ a v, x.A.l a = some v → v.val.length ≤ 100000) (hr : Room x (noteB 1 [b] none).length) (he : x.e = 0) :
    Calls Tryz.prog 48 #[.pointer (some ⟨q.x, 0, none⟩), .int .i64 t, .agg (msC k b s o bv)] w fun e w' => ∃ ks, (x.A.promised ≤ b → IsKeys x.A.l ks) ∧ RetH W q os (prepF x ks t b s).1 (prepF x ks t b s).2 e w' := by
  obtain ⟨W0, hW0⟩ : ∃ y, y = w.alloc (.cells (msC k b s o bv) 42) := ⟨_, rfl⟩
  have H := Lib.hid (h.boxed k b s o bv hW0)
  have HW := Lib.hid hW0
  have HUb := Lib.hid ub
  have HUs := Lib.hid us
  have HV := Lib.hid hv
  have HR := Lib.hid hr
  have HE := Lib.hid he
  clear h hW0 ub us hv hr he
  go_enter Tryz.func48, Tryz.ntmps48
  go_upto_region 1 with fail
  rw [← HW.out]
  generalize w.heap.size = m at *
  clear HW
  have HH := Lib.hid (nd_heard H.out.drew b)
  obtain ⟨⟨-, -, -, -, -, -, c6, -⟩, -⟩ := H.out.ndCell 0 rfl
  obtain ⟨-, d1, -, -⟩ := H.out.msCell 8 rfl
  clear H
  go_region_held3 (fun w' => w'.cell? ⟨q.x, 6, none⟩ = some (.pointer (some ⟨q.el, 0, none⟩)) ∧ w'.cell? ⟨m, 1, none⟩ = some (.int .u64 b)) (first | with_reducible exact hS7 | go_keep)
    (first
      | (go_at_call 46; (with_reducible refine HH.out.mono ?_); rintro e w7 ⟨rfl, hs7⟩
         obtain ⟨⟨-, -, -, -, -, -, z6, -⟩, -⟩ := hs7.ndCell 0 rfl
         obtain ⟨-, z1, -, -⟩ := hs7.msCell 8 rfl
         have hS7 : w7.cell? ⟨q.x, 6, none⟩ = some (.pointer (some ⟨q.el, 0, none⟩)) ∧ w7.cell? ⟨m, 1, none⟩ = some (.int .u64 b) := ⟨z6, z1⟩
         have HS7 := Lib.hid hs7
         clear hs7))
  all_goals
    clear HH hS7 c6 d1 z6 z1
    obtain ⟨⟨-, -, -, c3, -, -, -, -⟩, -⟩ := HS7.out.ndCell 0 rfl
    have HP := Lib.hid (HS7.out.accPromised 3 rfl)
    go_wp2_with fail
    refine HP.out.mono ?_
    rintro e w2 ⟨rfl, rfl⟩
    clear HP
    obtain ⟨-, d1, d2, -⟩ := HS7.out.msCell 8 rfl
    by_cases hlt : b < x.A.promised
    · have hF : ∀ ks, prepF x ks t b s = (heardN x b, allO [t] 11 x.A.promised 0 []) := fun ks => by unfold prepF; rw [if_pos hlt]
      have HF := Lib.hid hF
      have hno : ¬ x.A.promised ≤ b := by omega
      have HNo := Lib.hid hno
      have HO := Lib.hid (HS7.out.drew.prepOld 3 rfl (x := b) (fr := s) hlt)
      clear hlt hF hno
      go_wp2_with fail
      go_region_held3 (fun w' => w'.cell? ⟨q.x, 3, none⟩ = some (.pointer q.ap) ∧ w'.cell? ⟨m, 1, none⟩ = some (.int .u64 b) ∧ w'.cell? ⟨m, 2, none⟩ = some (.int .u64 s)) (first | with_reducible exact hS8 | go_keep)
        (first
          | (go_at_call 43; (with_reducible refine HO.out.mono ?_); rintro e w8 ⟨rfl, rfl⟩))
      all_goals
        have HD := Lib.hid HS7.out.drew
        have HK := Lib.hid (nd_nack HD.out t)
        go_wp2_with fail
        refine HK.out.mono ?_
        rintro e w9 ⟨v9, l9, f9, rfl, hl9, hs9⟩
        have HL9 := Lib.hid hl9
        have HS9 := Lib.hid hs9
        clear hl9 hs9 HK
        go_wp2_with fail
        go_ret
        refine ⟨[], fun h => by have := HNo.out; omega, ?_⟩
        rw [HF.out]
        exact ⟨v9, l9, f9, rfl, HL9.out, (SepW.dropB (pre := [_, _, _, _, _, _, _, _, _, _]) (l := [_]) HS9.out)⟩
    · have hge : x.A.promised ≤ b := by omega
      have HG := Lib.hid hge
      have hacc : AccO (.pointer q.ap) f.ac w7 x.NA x.A := HS7.out.get 3 rfl
      have hsm : ∀ ks, IsKeys x.A.l ks → (votL x.A.l ks s).length ≤ 1000 ∧ ∀ v ∈ votL x.A.l ks s, (U1 v.slot ∧ U1 v.ballot) ∧ v.val.length ≤ 100000 := fun ks hks => by
        refine ⟨by have h1 := hacc.keysLen hks; have h2 := votL_len x.A.l ks s; omega, fun v hv => ?_⟩
        obtain ⟨a, ha, _⟩ := votL_mem hv
        have h2 := hacc.small ha
        exact ⟨⟨by rw [h2.2.1]; exact h2.1, h2.2.2.1⟩, HV.out a v ha⟩
      have HSm := Lib.hid hsm
      have HO := Lib.hid (HS7.out.drew.prepOk 3 rfl (x := b) (fr := s) hge HUb.out (by show x.NA < 1000000; omega))
      have hF : ∀ ks, prepF x ks t b s = if x.A.promised < b then
          if (noteN (promisedN x b) (noteB 1 [b] none)).e = 0 then (noteN (promisedN x b) (noteB 1 [b] none), prepOut (noteN (promisedN x b) (noteB 1 [b] none)) t b (putV (votL x.A.l ks s)))
          else (noteN (promisedN x b) (noteB 1 [b] none), [])
        else (promisedN x b, prepOut (promisedN x b) t b (putV (votL x.A.l ks s))) := fun ks => by unfold prepF; rw [if_neg hlt]
      have HF := Lib.hid hF
      clear hlt hF hge hsm hacc
      go_wp2_with fail
      go_region_held3 (fun w' => w'.cell? ⟨q.x, 3, none⟩ = some (.pointer q.ap) ∧ w'.cell? ⟨m, 1, none⟩ = some (.int .u64 b) ∧ w'.cell? ⟨m, 2, none⟩ = some (.int .u64 s)) (first | with_reducible exact hS8 | go_keep)
        (first
          | (go_at_call 43; (with_reducible refine HO.out.mono ?_); rintro e w8 ⟨ks, ao, c, vs, hks, rfl, hs8⟩
             have hs8' : SepW W w8 (obVts (.slice ao (votL x.A.l ks s).length c) 80 vs (votL x.A.l ks s) :: ndOs q f (promisedN x b) (obBlk m (.cells (msC k b s o bv) 42) :: os)) := hs8
             obtain ⟨⟨-, -, -, z3, -, -, -, -⟩, -⟩ := hs8'.behind.ndCell 0 rfl
             obtain ⟨-, z1, z2, -⟩ := hs8'.behind.msCell 9 rfl
             have hS8 : w8.cell? ⟨q.x, 3, none⟩ = some (.pointer q.ap) ∧ w8.cell? ⟨m, 1, none⟩ = some (.int .u64 b) ∧ w8.cell? ⟨m, 2, none⟩ = some (.int .u64 s) := ⟨z3, z1, z2⟩
             have HS8 := Lib.hid hs8'.behind
             have HKs := Lib.hid hks
             clear hs8 hs8' hks))
      all_goals
        clear z1 z2 z3 hS8 d1 d2 c3 HO HS7
        go_upto_region 6 with fail
        go_cut [51] from 11 (fun s51 wc => ∃ (y : Nd) (f2 : NdF), s51 = .bool (!decide (y.e = 0)) ∧ prepF x ks t b s = (if y.e = 0 then (y, prepOut y t b (putV (votL x.A.l ks s))) else (y, [])) ∧ SepW W wc (ndOs q f2 y (obVts (.slice ao (votL x.A.l ks s).length c) 80 vs (votL x.A.l ks s) :: obBlk m (.cells (msC k b s o bv) 42) :: os)))
        case first =>
          obtain ⟨-, d1, -, -⟩ := HS8.out.msCell 9 rfl
          by_cases hgt : x.A.promised < b
          · have hgd : decide ((heardN x b).A.promised < b) = true := decide_eq_true hgt
            have HF2 := Lib.hid ((HF.out ks).trans (if_pos hgt))
            have hlit := (HS8.out.litRow [.int .u64 b] 39 (by simp)).behind
            have HN := Lib.hid (nd_note hlit (kd := 1) (by decide) (ns := [b]) (Held.row 0 rfl) (by simpa using HUb.out) (by simp) (Held.nil (os := _)) (xs := []) (by intro z hz; cases hz) (by simp) false ⟨HR.out.free, HR.out.fit, HR.out.waits, HR.out.few, HR.out.e⟩ HE.out)
            simp only [Bool.false_eq_true, if_false] at HN
            obtain ⟨y, hy⟩ : ∃ y, noteN (promisedN x b) (noteB 1 [b] none) = y := ⟨_, rfl⟩
            rw [hy] at HN HF2
            clear hlit hy hgt HF
            go_wp2_with fail
            refine HN.out.mono ?_
            rintro e w2 ⟨rfl, f2, hs2⟩
            have HS2 := Lib.hid (SepW.dropB (pre := [_, _, _, _, _, _, _, _]) (l := [_]) hs2)
            clear hs2 HN HS8 hgd d1
            go_wp2_with fail
            go_meet
            case rel => exact ⟨y, f2, rfl, HF2.out, HS2.out⟩
          · have hgd : decide ((heardN x b).A.promised < b) = false := decide_eq_false hgt
            have HF2 := Lib.hid ((HF.out ks).trans (if_neg hgt))
            clear hgt HF
            go_wp2_with fail
            go_meet
            case rel => exact ⟨promisedN x b, f, by rw [decide_eq_true (show (promisedN x b).e = 0 from HE.out)]; rfl, by rw [HF2.out, if_pos (show (promisedN x b).e = 0 from HE.out)], HS8.out⟩
        case rest =>
          obtain ⟨y, f2, rfl, hF2, hs2⟩ := hcut
          have HS2 := Lib.hid hs2
          clear hs2 HF HS8
          by_cases h0 : y.e = 0
          · have HF2 := Lib.hid (hF2.trans (if_pos h0))
            rw [decide_eq_true h0]
            have hvt : (obVts (.slice ao (votL x.A.l ks s).length c) 80 vs (votL x.A.l ks s)).inv wc := HS2.out.get 8 rfl
            have HPut := Lib.hid (put_any (VtL.of_own hvt.1 hvt.2.1) (fun v hv => ((HSm.out ks HKs.out).2 v hv).1) (HSm.out ks HKs.out).1 (fun v hv => ((HSm.out ks HKs.out).2 v hv).2))
            obtain ⟨vts, hvts⟩ : ∃ vts, votL x.A.l ks s = vts := ⟨_, rfl⟩
            rw [show votL (heardN x b).A.l ks s = vts from hvts]
            rw [hvts] at HPut HS2 HF2
            clear h0 hF2 hvt HSm hvts
            go_wp2_with fail
            refine HPut.out.mono ?_
            rintro e w4 ⟨pao, pc, rfl, hpo, hpb⟩
            have HS4 := Lib.hid (HS2.out.newRow hpo hpb)
            clear hpo hpb HPut HS2
            obtain ⟨bs, hbs⟩ : ∃ bs, putV vts = bs := ⟨_, rfl⟩
            rw [hbs] at HS4 HF2 ⊢
            clear hbs
            by_cases hbig : 32768 < bs.length
            · have hbd : decide ((32768 : Int) < (bs.length : Int)) = true := decide_eq_true (by omega)
              have hpo : prepOut y t b bs = [] := by unfold prepOut; rw [if_pos hbig]
              rw [hpo] at HF2
              clear hbig hpo
              go_wp2_with fail
              go_ret
              refine ⟨ks, fun _ => HKs.out, ?_⟩
              rw [HF2.out]
              exact RetH.nothing (SepW.dropB (pre := [_, _, _, _, _, _, _, _]) (l := [_, _]) HS4.out.tail)
            · have hbd : decide ((32768 : Int) < (bs.length : Int)) = false := decide_eq_false (by omega)
              have hpo : prepOut y t b bs = allO [t] 8 b y.A.low bs := by unfold prepOut; rw [if_neg hbig]
              rw [hpo] at HF2
              obtain ⟨⟨-, -, -, c3, -, -, -, -⟩, -⟩ := HS4.out.ndCell 1 rfl
              obtain ⟨-, d1, -, -⟩ := HS4.out.msCell 10 rfl
              have hlit := (HS4.out.litRow [.int .i64 t] 3 (by simp)).drew
              have HLo1 := Lib.hid (HS4.out.drew.accLow 4 rfl)
              have HLo2 := Lib.hid (hlit.accLow 5 rfl)
              have HA := Lib.hid (all_any (w := (w4.alloc (.cells #[.int .i64 t] 3)).drew) (tv := .slice (some ⟨w4.heap.size, 0, none⟩) 1 1) (ts := [t]) (hlit.row 0 rfl) (by simp) 8 b y.A.low pao bs.length pc)
              have HL := Lib.hid hlit.tail
              clear hbig hpo hlit HS4
              go_wp2_with fail
              go_region_held3 (fun w' => w'.cell? ⟨q.x, 3, none⟩ = some (.pointer q.ap) ∧ w'.cell? ⟨m, 1, none⟩ = some (.int .u64 b)) (first | with_reducible exact hS9 | go_keep)
                (first
                  | (go_at_call 89; (first | (with_reducible refine HLo1.out.mono ?_) | (with_reducible refine HLo2.out.mono ?_)); rintro e w5 ⟨rfl, rfl⟩)
                  | (go_at_call 36; (with_reducible refine HA.out.mono ?_); rintro e w6 ⟨ao6, c6, rfl, ho6, hb6⟩
                     have hS9 : w6.cell? ⟨q.x, 3, none⟩ = some (.pointer q.ap) ∧ w6.cell? ⟨m, 1, none⟩ = some (.int .u64 b) := ⟨((HL.out.step hb6).ndCell 1 rfl).1.2.2.2.1, ((HL.out.step hb6).msCell 10 rfl).2.1⟩
                     have HO6 := Lib.hid ho6
                     have HB6 := Lib.hid hb6
                     clear ho6 hb6))
              all_goals
                go_wp2_with fail
                go_ret
                refine ⟨ks, fun _ => HKs.out, ?_⟩
                rw [HF2.out]
                exact RetH.all1 (SepW.dropB (pre := [_, _, _, _, _, _, _, _, _]) (l := [_, _]) HL.out.rowBod) HO6.out HB6.out
          · have HF2 := Lib.hid (hF2.trans (if_neg h0))
            rw [decide_eq_false h0]
            clear h0 hF2
            go_wp2_with fail
            go_ret
            refine ⟨ks, fun _ => HKs.out, ?_⟩
            rw [HF2.out]
            exact RetH.nothing (SepW.dropB (pre := [_, _, _, _, _, _, _, _]) (l := [_, _]) HS2.out)
end
end Go.Proofs.YtgmdedkingampaaGreat

namespace Go.Proofs.YtgmdedkingampaaGreat
open Go.ChangeShapes Go.WideShapes Go.ChangeAt Go.RowKit Go.Maps
set_option maxRecDepth 1000000
set_option linter.unusedVariables false
set_option linter.unusedSimpArgs false

/-- A node that was told to accept a vote. -/
def acceptedN (x : Nd) (v : Vt) : Nd := { heardN x v.ballot with NA := x.NA + 1, A := accR x.A v }
/-- Did it accept the very same one ahead? -/
def sameA (x : Nd) (v : Vt) : Bool := (x.A.l v.slot).isSome && ((vOr x.A v.slot).ballot == v.ballot && (vOr x.A v.slot).val == v.val)
def acceptF (x : Nd) (t b s : Int) (xs : List Int) : Nd × List Om :=
  if accE x.A ⟨s, b, xs⟩ = 0 then
    if sameA x ⟨s, b, xs⟩ = true then (acceptedN x ⟨s, b, xs⟩, allO [t] 10 b s [])
    else if (noteN (acceptedN x ⟨s, b, xs⟩) (noteB 2 [s, b] (some xs))).e = 0 then (noteN (acceptedN x ⟨s, b, xs⟩) (noteB 2 [s, b] (some xs)), allO [t] 10 b s [])
    else (noteN (acceptedN x ⟨s, b, xs⟩) (noteB 2 [s, b] (some xs)), [])
  else if accE x.A ⟨s, b, xs⟩ = 32 then (acceptedN x ⟨s, b, xs⟩, allO [t] 11 x.A.promised 0 [])
  else (acceptedN x ⟨s, b, xs⟩, [])
theorem acceptedN_prom {x : Nd} {v : Vt} (h : accE x.A v ≠ 0) : (acceptedN x v).A.promised = x.A.promised := by
  show (accR x.A v).promised = _
  unfold accR
  rw [if_neg h]
theorem u1_two {a b : Int} (ha : U1 a) (hb : U1 b) : ∀ z ∈ [a, b], U1 z := by
  intro z hz
  simp only [List.mem_cons, List.not_mem_nil, or_false] at hz
  rcases hz with rfl | rfl
  · exact ha
  · exact hb
attribute [local go_sem ↓] ex_rowStore
section
variable {W w w' : World} {os : List Ob} {q : NdA} {f : NdF} {x : Nd}
theorem SepW.mid {o : Ob} {pre : List Ob} (h : SepW W w (o :: (pre ++ os))) : SepW W w (pre ++ o :: os) := h.perm List.perm_middle.symm
set_option maxHeartbeats 4000000 in
theorem nd_accept (h : SepW W w (ndOs q f x os)) {k b s : Int} (o : Mo) {bv : Value} {xs : List Int} (t : Int) (ub : U1 b) (us : U1 s) (hb : Held W os bv (u8s xs)) (ux : U8 xs) (lx : xs.length ≤ 3900) (hN : x.NA ≤ 900) (hr : Room x (noteB 2 [s, b] (some xs)).length) (he : x.e = 0) :
    Calls Tryz.prog 50 #[.pointer (some ⟨q.x, 0, none⟩), .int .i64 t, .agg (msC k b s o bv)] w (RetH W q os (acceptF x t b s xs).1 (acceptF x t b s xs).2) := by
  obtain ⟨bo, bc, rfl, hbc, hbc2⟩ := (hb.at0 h.ndRest).form
  simp only [List.length_map] at hb hbc hbc2 ⊢
  obtain ⟨W0, hW0⟩ : ∃ y, y = w.alloc (.cells (msC k b s o (.slice bo xs.length bc)) 42) := ⟨_, rfl⟩
  have H := Lib.hid (h.boxed k b s o (.slice bo xs.length bc) hW0)
  have HW := Lib.hid hW0
  have HUb := Lib.hid ub
  have HUs := Lib.hid us
  have HB := Lib.hid hb
  have HX := Lib.hid ux
  have HR := Lib.hid hr
  have HE := Lib.hid he
  have hgt : decide ((4000 : Int) < (xs.length : Int)) = false := decide_eq_false (by omega)
  clear h hW0 ub us hb ux hr he
  go_enter Tryz.func50, Tryz.ntmps50
  go_upto_region 1 with fail
  rw [← HW.out]
  generalize w.heap.size = m at *
  clear HW
  have HH := Lib.hid (nd_heard H.out.drew b)
  obtain ⟨⟨-, -, -, -, -, -, c6, -⟩, -⟩ := H.out.ndCell 0 rfl
  obtain ⟨-, d1, -, d10⟩ := H.out.msCell 8 rfl
  clear H
  go_wp2_with fail
  go_region_held3 (fun w' => w'.cell? ⟨q.x, 6, none⟩ = some (.pointer (some ⟨q.el, 0, none⟩)) ∧ w'.cell? ⟨m, 1, none⟩ = some (.int .u64 b)) (first | with_reducible exact hS7 | go_keep)
    (first
      | (go_at_call 46; (with_reducible refine HH.out.mono ?_); rintro e w7 ⟨rfl, hs7⟩
         obtain ⟨⟨-, -, -, -, -, -, z6, -⟩, -⟩ := hs7.ndCell 0 rfl
         obtain ⟨-, z1, -, -⟩ := hs7.msCell 8 rfl
         have hS7 : w7.cell? ⟨q.x, 6, none⟩ = some (.pointer (some ⟨q.el, 0, none⟩)) ∧ w7.cell? ⟨m, 1, none⟩ = some (.int .u64 b) := ⟨z6, z1⟩
         have HS7 := Lib.hid hs7
         clear hs7))
  all_goals
    clear HH hS7 c6 d1 z6 z1 d10
    go_upto_region 4 with fail
    go_cut [7, 8] from 9 (fun s7 s8 wc => ∃ (V : Nat) (ao : Option Addr) (c : Nat), s7 = .pointer (some ⟨V, 0, none⟩) ∧ s8 = .bool (x.A.l s).isSome ∧ SepW W wc (obRow (.slice ao (vOr x.A s).val.length c) 5 1 (vOr x.A s).val.length (u8s (vOr x.A s).val) :: ndOs q f (heardN x b) (obBlk V (.cells #[.int .u64 (vOr x.A s).slot, .int .u64 (vOr x.A s).ballot, .slice ao (vOr x.A s).val.length c] 80) :: obBlk m (.cells (msC k b s o (.slice bo xs.length bc)) 42) :: os)))
    case first =>
      obtain ⟨⟨-, -, -, c3, -, -, -, -⟩, -⟩ := HS7.out.ndCell 0 rfl
      obtain ⟨-, -, d2, -⟩ := HS7.out.msCell 8 rfl
      have HV1 : Hid (Calls Tryz.prog 92 #[.pointer q.ap, .int .u64 s] w7.drew (RetVd w7.drew (vOr x.A s) (x.A.l s).isSome)) := Lib.hid (HS7.out.drew.voted 3 rfl HUs.out)
      have HV2 : Hid (Calls Tryz.prog 92 #[.pointer q.ap, .int .u64 s] (w7.alloc (.cells #[.int .u64 0, .int .u64 0, .slice none 0 0] 80)).drew (RetVd (w7.alloc (.cells #[.int .u64 0, .int .u64 0, .slice none 0 0] 80)).drew (vOr x.A s) (x.A.l s).isSome)) := Lib.hid ((HS7.out.newBlk #[.int .u64 0, .int .u64 0, .slice none 0 0] 80).drew.voted 4 rfl HUs.out)
      obtain ⟨old, hold⟩ : ∃ old, vOr x.A s = old := ⟨_, rfl⟩
      rw [hold] at HV1 HV2
      have HOld := Lib.hid hold
      clear hold
      have hMk : RowMark 80 := ⟨trivial⟩
      go_wp2_with fail
      go_region_held3 (fun w' => w'.cell? ⟨q.x, 3, none⟩ = some (.pointer q.ap) ∧ w'.cell? ⟨m, 2, none⟩ = some (.int .u64 s)) (first | with_reducible exact hS8 | with_reducible exact hS9 | go_keep)
        (first
          | (go_at_call 92; (with_reducible refine HV1.out.mono ?_); rintro e w8 ⟨ao8, c8, rfl, ho8, hb8⟩
             have hs8 := HS7.out.drew.newRow ho8 hb8
             have hS8 : w8.cell? ⟨q.x, 3, none⟩ = some (.pointer q.ap) ∧ w8.cell? ⟨m, 2, none⟩ = some (.int .u64 s) := ⟨(hs8.ndCell 1 rfl).1.2.2.2.1, (hs8.msCell 9 rfl).2.2.1⟩
             have hST := run_rowStoreB (P := Tryz.prog) 80 w8.heap.size #[.int .u64 old.slot, .int .u64 old.ballot, .slice ao8 old.val.length c8] 80 _ (heap_alloc_new w8 (.cells #[.int .u64 0, .int .u64 0, .slice none 0 0] 80)) (by kernel_rfl) rfl (by kernel_rfl)
             rw [setRow_alloc] at hST
             have hs9 := hs8.newBlk #[.int .u64 old.slot, .int .u64 old.ballot, .slice ao8 old.val.length c8] 80
             have hS9 : (w8.alloc (.cells #[.int .u64 old.slot, .int .u64 old.ballot, .slice ao8 old.val.length c8] 80)).cell? ⟨q.x, 3, none⟩ = some (.pointer q.ap) ∧ (w8.alloc (.cells #[.int .u64 old.slot, .int .u64 old.ballot, .slice ao8 old.val.length c8] 80)).cell? ⟨m, 2, none⟩ = some (.int .u64 s) := ⟨(hs9.ndCell 2 rfl).1.2.2.2.1, (hs9.msCell 10 rfl).2.2.1⟩
             have HS9 := Lib.hid (SepW.mid (pre := [_, _, _, _, _, _, _, _, _]) hs9)
             clear ho8 hb8 hs8 hs9)
          | (go_at_call 92; (with_reducible refine HV2.out.mono ?_); rintro e w8 ⟨ao8, c8, rfl, ho8, hb8⟩
             have hs8 := (HS7.out.newBlk #[.int .u64 0, .int .u64 0, .slice none 0 0] 80).behind.drew.newRow ho8 hb8
             have hS8 : w8.cell? ⟨q.x, 3, none⟩ = some (.pointer q.ap) ∧ w8.cell? ⟨m, 2, none⟩ = some (.int .u64 s) := ⟨(hs8.ndCell 1 rfl).1.2.2.2.1, (hs8.msCell 10 rfl).2.2.1⟩
             have hST := run_rowStoreB (P := Tryz.prog) 80 w7.heap.size #[.int .u64 old.slot, .int .u64 old.ballot, .slice ao8 old.val.length c8] 80 _ (hs8.get 9 rfl : w8.heap[w7.heap.size]? = some (.cells #[.int .u64 0, .int .u64 0, .slice none 0 0] 80 (0, 0))) (by kernel_rfl) rfl (by kernel_rfl)
             have hs9 := hs8.rowBlk 9 #[.int .u64 old.slot, .int .u64 old.ballot, .slice ao8 old.val.length c8] rfl
             have hs9' : SepW W (w8.setRow w7.heap.size #[.int .u64 old.slot, .int .u64 old.ballot, .slice ao8 old.val.length c8]) (obRow (.slice ao8 old.val.length c8) 5 1 old.val.length (u8s old.val) :: ndOs q f (heardN x b) (obBlk w7.heap.size (.cells #[.int .u64 old.slot, .int .u64 old.ballot, .slice ao8 old.val.length c8] 80) :: obBlk m (.cells (msC k b s o (.slice bo xs.length bc)) 42) :: os)) := hs9
             have hS9 : (w8.setRow w7.heap.size #[.int .u64 old.slot, .int .u64 old.ballot, .slice ao8 old.val.length c8]).cell? ⟨q.x, 3, none⟩ = some (.pointer q.ap) ∧ (w8.setRow w7.heap.size #[.int .u64 old.slot, .int .u64 old.ballot, .slice ao8 old.val.length c8]).cell? ⟨m, 2, none⟩ = some (.int .u64 s) := ⟨(hs9'.ndCell 1 rfl).1.2.2.2.1, (hs9'.msCell 10 rfl).2.2.1⟩
             have HS9 := Lib.hid hs9'
             clear ho8 hb8 hs8 hs9 hs9'))
      all_goals
        clear hMk
        go_wp2_with fail
        go_meet
        case rel => rw [HOld.out]; exact ⟨_, _, _, rfl, rfl, HS9.out⟩
    case rest =>
      obtain ⟨V, ao, c, rfl, rfl, hs⟩ := hcut
      have HC := Lib.hid hs.behind
      clear hs HS7
      have hacc : AccO (.pointer q.ap) f.ac wc x.NA x.A := HC.out.get 3 rfl
      have hu8 : U8 (vOr x.A s).val := by
        cases hv : x.A.l s with
        | none => unfold vOr; rw [hv]; intro z hz; cases hz
        | some v => rw [vOr_some hv]; exact (hacc.small hv).2.2.2.1
      obtain ⟨old, hold⟩ : ∃ old, vOr x.A s = old := ⟨_, rfl⟩
      have HOld := Lib.hid hold
      rw [hold] at HC hu8
      have HU8 := Lib.hid hu8
      clear hold hu8 hacc
      obtain ⟨⟨-, -, -, c3, -, -, -, -⟩, -⟩ := HC.out.ndCell 0 rfl
      obtain ⟨-, d1, d2, d10⟩ := HC.out.msCell 10 rfl
      have HAc := Lib.hid (HC.out.drew.accept 3 rfl (v := ⟨s, b, xs⟩) ((HB.out.more [_, _, _]).at0 HC.out.drew.ndRest) HUs.out HUb.out HX.out (by show xs.length ≤ 1000000; omega) (by show x.NA < 1000000; omega))
      go_wp2_with fail
      go_region_held3 (fun w' => w'.cell? ⟨q.x, 3, none⟩ = some (.pointer q.ap) ∧ w'.cell? ⟨m, 1, none⟩ = some (.int .u64 b) ∧ w'.cell? ⟨m, 2, none⟩ = some (.int .u64 s) ∧ w'.cell? ⟨m, 10, none⟩ = some (.slice bo xs.length bc)) (first | with_reducible exact hS8 | go_keep)
        (first
          | (go_at_call 93; (with_reducible refine HAc.out.mono ?_); rintro e w8 ⟨rfl, D8, hs8⟩
             have hs8' : SepW W w8 (ndOs q { f with ac := D8 } (acceptedN x ⟨s, b, xs⟩) (obRow (.slice ao old.val.length c) 5 1 old.val.length (u8s old.val) :: obBlk V (.cells #[.int .u64 old.slot, .int .u64 old.ballot, .slice ao old.val.length c] 80) :: obBlk m (.cells (msC k b s o (.slice bo xs.length bc)) 42) :: os)) := hs8
             have hS8 : w8.cell? ⟨q.x, 3, none⟩ = some (.pointer q.ap) ∧ w8.cell? ⟨m, 1, none⟩ = some (.int .u64 b) ∧ w8.cell? ⟨m, 2, none⟩ = some (.int .u64 s) ∧ w8.cell? ⟨m, 10, none⟩ = some (.slice bo xs.length bc) := ⟨(hs8'.ndCell 0 rfl).1.2.2.2.1, (hs8'.msCell 10 rfl).2⟩
             have HS8 := Lib.hid hs8'
             clear hs8 hs8'))
      all_goals
        clear hS8 c3 d1 d2 d10 HAc HC
        generalize { f with ac := D8 } = f8 at *
        obtain ⟨y, hy⟩ : ∃ y, acceptedN x ⟨s, b, xs⟩ = y := ⟨_, rfl⟩
        have hprom : accE x.A ⟨s, b, xs⟩ ≠ 0 → y.A.promised = x.A.promised := by rw [← hy]; exact acceptedN_prom
        have hye : y.e = 0 := by rw [← hy]; exact HE.out
        have hyr : Room y (noteB 2 [s, b] (some xs)).length := by rw [← hy]; exact ⟨HR.out.free, HR.out.fit, HR.out.waits, HR.out.few, HR.out.e⟩
        obtain ⟨er, her⟩ : ∃ er, accE x.A ⟨s, b, xs⟩ = er := ⟨_, rfl⟩
        obtain ⟨sm, hsm⟩ : ∃ sm, sameA x ⟨s, b, xs⟩ = sm := ⟨_, rfl⟩
        obtain ⟨z, hz⟩ : ∃ z, noteN y (noteB 2 [s, b] (some xs)) = z := ⟨_, rfl⟩
        have hF : acceptF x t b s xs = if er = 0 then
              if sm = true then (y, allO [t] 10 b s []) else if z.e = 0 then (z, allO [t] 10 b s []) else (z, [])
            else if er = 32 then (y, allO [t] 11 x.A.promised 0 []) else (y, []) := by
          rw [← hz, ← hsm, ← her, ← hy]; rfl
        have HF := Lib.hid hF
        have HYe := Lib.hid hye
        have HYr := Lib.hid hyr
        have HZ := Lib.hid hz
        have HSm := Lib.hid hsm
        rw [her] at hprom
        rw [show accE (heardN x b).A ⟨s, b, xs⟩ = er from her]
        rw [hy] at HS8
        have HPr := Lib.hid hprom
        clear hF hye hyr hz hsm hprom her hy
        by_cases h0 : er = 0
        · subst h0
          have HF2 := Lib.hid (HF.out.trans (if_pos rfl))
          clear HF HPr
          go_upto_region 10 with fail
          go_cut [9] from 10 (fun s9 wx => s9 = .bool sm ∧ w8 = wx)
          case first =>
            obtain ⟨-, d1, -, d10⟩ := HS8.out.msCell 10 rfl
            have v1 := (HS8.out.blk 9 rfl 1 (.int .u64 old.ballot) rfl).1
            have v2 := (HS8.out.blk 9 rfl 2 (.slice ao old.val.length c) rfl).1
            have HEq := Lib.hid (Ln.equal_any (HS8.out.row 8 rfl) ((HB.out.more [_, _, _]).at0 HS8.out.ndRest) HU8.out HX.out)
            have hsm : sm = ((x.A.l s).isSome && (old.ballot == b && old.val == xs)) := by rw [← HSm.out, ← HOld.out]; rfl
            generalize (x.A.l s).isSome = is at *
            cases is
            · have HSm2 := Lib.hid hsm
              clear hsm
              go_wp2_with fail
              go_meet
              case rel => exact ⟨by rw [HSm2.out]; rfl, rfl⟩
            · by_cases hbb : old.ballot = b
              · have hbe : (old.ballot == b) = true := by simp [hbb]
                rw [hbe] at hsm
                have HSm2 := Lib.hid hsm
                clear hsm hbb
                go_wp2_with fail
                refine HEq.out.mono ?_
                rintro e w9 ⟨rfl, rfl⟩
                go_wp2_with fail
                go_meet
                case rel => exact ⟨by rw [HSm2.out]; rfl, rfl⟩
              · have hbe : (old.ballot == b) = false := by simp [hbb]
                rw [hbe] at hsm
                have HSm2 := Lib.hid hsm
                clear hsm hbb
                go_wp2_with fail
                go_meet
                case rel => exact ⟨by rw [HSm2.out]; rfl, rfl⟩
          case rest =>
            obtain ⟨rfl, rfl⟩ := hcut
            go_upto_region 11 with fail
            go_cut [78] from 10 (fun s78 wx => ∃ (y2 : Nd) (f2 : NdF), s78 = .bool (!decide (y2.e = 0)) ∧ acceptF x t b s xs = (if y2.e = 0 then (y2, allO [t] 10 b s []) else (y2, [])) ∧ SepW W wx (ndOs q f2 y2 (obRow (.slice ao old.val.length c) 5 1 old.val.length (u8s old.val) :: obBlk V (.cells #[.int .u64 old.slot, .int .u64 old.ballot, .slice ao old.val.length c] 80) :: obBlk m (.cells (msC k b s o (.slice bo xs.length bc)) 42) :: os)))
            case first =>
              cases sm
              · have HF3 := Lib.hid (HF2.out.trans (if_neg (by simp)))
                obtain ⟨-, d1, d2, d10⟩ := HS8.out.msCell 10 rfl
                have hlit := (HS8.out.litRow [.int .u64 s, .int .u64 b] 39 (by simp)).behind
                have HN := Lib.hid (nd_note hlit (kd := 2) (by decide) (ns := [s, b]) (Held.row 0 rfl) (u1_two HUs.out HUb.out) (by simp) (HB.out.more [_, _, _, _]) HX.out lx true (by simpa using HYr.out) HYe.out)
                simp only [if_true] at HN
                rw [HZ.out] at HN
                have dd10 : (w8.alloc (.cells #[.int .u64 s, .int .u64 b] 39)).cell? ⟨m, 10, none⟩ = some (.slice bo xs.length bc) := (hlit.msCell 11 rfl).2.2.2
                clear hlit HF2
                go_wp2_with fail
                refine HN.out.mono ?_
                rintro e w9 ⟨rfl, f9, hs9⟩
                have HS9 := Lib.hid (SepW.dropB (pre := [_, _, _, _, _, _, _, _]) (l := [_]) hs9)
                clear hs9 HN HS8 d1 d2 d10
                go_wp2_with fail
                go_meet
                case rel => exact ⟨z, f9, rfl, HF3.out, HS9.out⟩
              · have HF3 := Lib.hid (HF2.out.trans (if_pos rfl))
                clear HF2
                go_wp2_with fail
                go_meet
                case rel => exact ⟨y, f8, by rw [decide_eq_true HYe.out]; rfl, by rw [HF3.out, if_pos HYe.out], HS8.out⟩
            case rest =>
              obtain ⟨y2, f2, rfl, hF3, hs2⟩ := hcut
              have HS2 := Lib.hid hs2
              clear hs2 HF2 HS8
              by_cases h0 : y2.e = 0
              · have HF4 := Lib.hid (hF3.trans (if_pos h0))
                rw [decide_eq_true h0]
                obtain ⟨-, d1, d2, -⟩ := HS2.out.msCell 10 rfl
                have hl := HS2.out.litRow [.int .i64 t] 3 (by simp)
                have HL := Lib.hid (SepW.dropB (pre := [_, _, _, _, _, _, _, _]) (l := [_, _, _]) hl.tail)
                have HA := Lib.hid (all_any (ts := [t]) (hl.row 0 rfl) (by simp) 10 b s none 0 0)
                clear h0 hF3 hl HS2
                go_wp2_with fail
                refine HA.out.mono ?_
                rintro e w9 ⟨ao9, c9, rfl, ho9, hb9⟩
                have HO := Lib.hid ho9
                have HB9 := Lib.hid hb9
                clear ho9 hb9 HA
                go_wp2_with fail
                go_ret
                rw [HF4.out]
                exact RetH.all0 HL.out HO.out HB9.out
              · have HF4 := Lib.hid (hF3.trans (if_neg h0))
                rw [decide_eq_false h0]
                clear h0 hF3
                go_wp2_with fail
                go_ret
                rw [HF4.out]
                exact RetH.nothing (SepW.dropB (pre := [_, _, _, _, _, _, _, _]) (l := [_, _, _]) HS2.out)
        · by_cases h32 : er = 32
          · subst h32
            have HF2 := Lib.hid (HF.out.trans ((if_neg h0).trans (if_pos rfl)))
            have HK := Lib.hid (nd_nack HS8.out t)
            rw [HPr.out h0] at HK
            clear HF HPr h0
            go_wp2_with fail
            refine HK.out.mono ?_
            rintro e w9 ⟨v9, l9, f9, rfl, hl9, hs9⟩
            have HL9 := Lib.hid hl9
            have HS9 := Lib.hid hs9
            clear hl9 hs9 HK
            go_wp2_with fail
            go_ret
            rw [HF2.out]
            exact ⟨v9, l9, f9, rfl, HL9.out, (SepW.dropB (pre := [_, _, _, _, _, _, _, _, _, _]) (l := [_, _, _]) HS9.out)⟩
          · have HF2 := Lib.hid (HF.out.trans ((if_neg h0).trans (if_neg h32)))
            have he0 : (er == 0) = false := beq_eq_false_iff_ne.2 h0
            have he32 : (er == 32) = false := beq_eq_false_iff_ne.2 h32
            clear HF HPr h0 h32
            go_wp2_with fail
            go_ret
            rw [HF2.out]
            exact RetH.nothing (SepW.dropB (pre := [_, _, _, _, _, _, _, _]) (l := [_, _, _]) HS8.out)
end
end Go.Proofs.YtgmdedkingampaaGreat
