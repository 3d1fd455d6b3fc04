/-
  Package paxos: proposals for all.
-/
import Derived.Test.YtgmdedkingampaaGreatPxA
import Derived.Test.YtgmdedkingampaaGreatSeg5
import Derived.Test.YtgmdedkingampaaGreatLnr2
import Derived.Test.YtgmdedkingampaaGreatLeaO
import Derived.Test.YtgmdedkingampaaGreatBal
import Derived.Test.YtgmdedkingampaaGreatGetX
set_option linter.unusedVariables false
set_option linter.unusedSimpArgs false
namespace Go.Proofs.YtgmdedkingampaaGreat
open Go.ChangeShapes Go.WideShapes Go.ChangeAt Go.RowKit Go.Maps
set_option maxRecDepth 1000000

/-- Where a node's things lie. -/
structure NdA where
  x : Nat
  b0 : Nat
  s0 : Nat
  l0 : Nat
  el : Nat
  ap : Option Addr
  lp : Option Addr
  po : Option Addr
  pc : Nat
/-- Their blocks. -/
structure NdF where
  d : Nat → Prop
  sg : Nat → Prop
  ac : Nat → Prop
  ln : Nat → Prop
  le : Nat → Prop
/-- A node. -/
structure Nd where
  id : Int
  ps : List Int
  d : Dk
  sg : Sg
  NA : Nat
  A : AS
  nl : Nat
  kn : Ln.Kn
  next : Int
  NL : Nat
  L : LS
  t : Int
  lf : Int
  top : Int
  e : Int
abbrev ndC (q : NdA) (x : Nd) : Array Value := #[.int .i64 x.id, .slice q.po x.ps.length q.pc, .pointer (some ⟨q.s0, 0, none⟩), .pointer q.ap, .pointer (some ⟨q.l0, 0, none⟩), .pointer q.lp, .pointer (some ⟨q.el, 0, none⟩), .int .i64 x.e]
abbrev ndOs (q : NdA) (f : NdF) (x : Nd) (os : List Ob) : List Ob :=
  obBlk q.x (.cells (ndC q x) 78) :: obDk q.b0 f.d x.d :: obSg q.b0 q.s0 f.sg x.sg :: obAcc (.pointer q.ap) f.ac x.NA x.A :: obLn q.l0 f.ln x.nl x.kn x.next :: obLea (.pointer q.lp) f.le x.NL x.L :: obEl q.el x.t x.lf x.top :: obRow (.slice q.po x.ps.length q.pc) 3 1 x.ps.length (i64s x.ps) :: os
/-- A slice that things hold, or that was there ahead of the call. -/
def Held (W : World) (os : List Ob) (v : Value) (us : List Value) : Prop :=
  ∀ (w : World) (l : List Ob), SepW W w (l ++ os) → SlR w v us ∧ (us ≠ [] → ∀ o ∈ l, ∀ k, v.ownBlock = some k → ¬ o.foot k)
section
variable {W w : World} {os : List Ob} {v : Value} {us : List Value}
theorem Held.at0 (H : Held W os v us) (h : SepW W w os) : SlR w v us := (H w [] h).1
theorem Held.off (H : Held W os v us) {l : List Ob} (h : SepW W w (l ++ os)) (i : Nat) {o : Ob} (hi : l[i]? = some o) (hne : us ≠ []) : ∀ k, v.ownBlock = some k → ¬ o.foot k := (H w l h).2 hne o (List.mem_of_getElem? hi)
theorem Held.more (H : Held W os v us) (l : List Ob) : Held W (l ++ os) v us := fun w l' h => by
  rw [← List.append_assoc] at h
  obtain ⟨h1, h2⟩ := H w _ h
  exact ⟨h1, fun hne o ho => h2 hne o (List.mem_append_left _ ho)⟩
theorem Held.arg (h : SlR W v us) : Held W os v us := fun w l hs =>
  ⟨h.below hs.below (Nat.le_refl _), fun hne o ho k hk hf => by
    have h1 := h.ownLt hne k hk
    have h2 := hs.sep.base o (List.mem_append_left _ ho) k hf
    omega⟩
theorem Held.ob {o : Ob} (i : Nat) (hi : os[i]? = some o) (h1 : ∀ w, o.inv w → SlR w v us) (h2 : us ≠ [] → ∀ k, v.ownBlock = some k → o.foot k) : Held W os v us := fun w l hs =>
  ⟨h1 w (hs.sep.inv o (List.mem_append_right _ (List.mem_of_getElem? hi))), fun hne o' ho' k hk hf => by
    have := List.pairwise_append.1 hs.sep.apart
    exact this.2.2 o' ho' o (List.mem_of_getElem? hi) k hf (h2 hne k hk)⟩
theorem Held.row {e : TypeId} {n : Nat} (i : Nat) (hi : os[i]? = some (obRow v e 1 n us)) : Held W os v us := Held.ob i hi (fun w hw => SlR.of_own hw) (fun _ k hk => hk)
theorem Held.nil : Held W os (.slice none 0 0) [] := fun w l _ => ⟨⟨none, 0, rfl, by simp, by unfold maxLen; omega, by simp⟩, fun h => absurd rfl h⟩
theorem SepW.ndCell {x : Nat} {q : NdA} {N : Nd} (h : SepW W w os) (i : Nat) (hi : os[i]? = some (obBlk x (.cells (ndC q N) 78))) :
    (w.cell? ⟨x, 0, none⟩ = some (.int .i64 N.id) ∧ w.cell? ⟨x, 1, none⟩ = some (.slice q.po N.ps.length q.pc) ∧ w.cell? ⟨x, 2, none⟩ = some (.pointer (some ⟨q.s0, 0, none⟩)) ∧ w.cell? ⟨x, 3, none⟩ = some (.pointer q.ap) ∧
    w.cell? ⟨x, 4, none⟩ = some (.pointer (some ⟨q.l0, 0, none⟩)) ∧ w.cell? ⟨x, 5, none⟩ = some (.pointer q.lp) ∧ w.cell? ⟨x, 6, none⟩ = some (.pointer (some ⟨q.el, 0, none⟩)) ∧ w.cell? ⟨x, 7, none⟩ = some (.int .i64 N.e)) ∧ ∀ j, w.frozen? ⟨x, j, none⟩ = false := by
  have hb : w.heap[x]? = some (.cells (ndC q N) 78 (0, 0)) := h.get i hi
  refine ⟨⟨?_, ?_, ?_, ?_, ?_, ?_, ?_, ?_⟩, fun j => by simp [World.frozen?, hb]⟩ <;> simp [World.cell?, hb]
/-- A message's cells, read. -/
theorem SepW.mgCell {m : Nat} {cs : Array Value} {v0 v1 v2 v3 v4 v5 v6 v7 v8 v9 v10 : Value} (h : SepW W w os) (i : Nat) (hi : os[i]? = some (obBlk m (.cells #[v0, v1, v2, v3, v4, v5, v6, v7, v8, v9, v10] 42))) :
    w.cell? ⟨m, 0, none⟩ = some v0 ∧ w.cell? ⟨m, 1, none⟩ = some v1 ∧ w.cell? ⟨m, 2, none⟩ = some v2 ∧ w.cell? ⟨m, 10, none⟩ = some v10 := by
  have hb : w.heap[m]? = some (.cells #[v0, v1, v2, v3, v4, v5, v6, v7, v8, v9, v10] 42 (0, 0)) := h.get i hi
  refine ⟨?_, ?_, ?_, ?_⟩ <;> simp [World.cell?, hb]
end
/-- A note as bytes. -/
def noteB (kind : Int) (ns : List Int) (v : Option (List Int)) : List Int := kind :: (ns.flatMap putU ++ (match v with | none => [] | some xs => putB xs))
/-- A node behind a note. -/
def noteN (x : Nd) (bs : List Int) : Nd :=
  if (sgApp x.sg x.d bs).2.1 = 0 then { x with sg := sgSy (sgApp x.sg x.d bs).2.2.1 (sgApp x.sg x.d bs).2.2.2, d := (dkSy (sgApp x.sg x.d bs).2.2.2).2, e := (dkSy (sgApp x.sg x.d bs).2.2.2).1 }
  else { x with sg := (sgApp x.sg x.d bs).2.2.1, d := (sgApp x.sg x.d bs).2.2.2, e := (sgApp x.sg x.d bs).2.1 }
/-- Is there room for one more? -/
structure Room (x : Nd) (m : Nat) : Prop where
  free : need m ≤ x.sg.n - x.sg.used
  fit : x.sg.fr + x.sg.n ≤ x.d.l.length
  waits : x.d.waits.length + 1000 < 1000000
  few : x.sg.l.length < 65536
  e : x.sg.e = 0
end Go.Proofs.YtgmdedkingampaaGreat

namespace Go.Proofs.YtgmdedkingampaaGreat
open Go.ChangeShapes Go.WideShapes Go.ChangeAt Go.RowKit Go.Maps
set_option maxRecDepth 1000000
set_option linter.unusedVariables false
set_option linter.unusedSimpArgs false

section
variable {W w w' : World} {os : List Ob} {q : NdA} {f : NdF} {x : Nd}
theorem flat_len (ns : List Int) : (ns.flatMap putU).length ≤ 9 * ns.length := by
  induction ns with
  | nil => simp
  | cons a r ih => have h1 := putU_len a; have h2 := sz_le a; simp only [List.flatMap_cons, List.length_append, List.length_cons]; omega
theorem sgApp_e (s : Sg) (d : Dk) (xs : List Int) (h : (sgApp s d xs).2.1 = 0) : (sgApp s d xs).2.2.1.e = s.e := by
  unfold sgApp at h ⊢
  split
  · rfl
  · rename_i hn
    rw [if_neg hn] at h
    exact absurd h hn
set_option maxHeartbeats 4000000 in
theorem nd_note (h : SepW W w (ndOs q f x os)) {kd : Int} (hkd : 0 ≤ kd ∧ kd ≤ 255) {nv bv : Value} {ns xs : List Int} (hn : Held W os nv (u64s ns)) (hu : ∀ a ∈ ns, U1 a) (hnl : ns.length ≤ 10) (hb : Held W os bv (u8s xs)) (ux : U8 xs) (lx : xs.length ≤ 3900) (has : Bool)
    (hr : Room x (noteB kd ns (if has then some xs else none)).length) (he : x.e = 0) :
    Calls Tryz.prog 44 #[.pointer (some ⟨q.x, 0, none⟩), .int .u8 kd, nv, bv, .bool has] w fun e w' => e = .returned (.bool (decide ((noteN x (noteB kd ns (if has then some xs else none))).e = 0))) ∧ ∃ f', SepW W w' (ndOs q f' (noteN x (noteB kd ns (if has then some xs else none))) os) := by
  have hn0 := hn.at0 (h.sub (List.sublist_append_right [_, _, _, _, _, _, _, _] _))
  obtain ⟨no, nc, rfl, hnc, hnc2⟩ := hn0.form
  have hb0 := hb.at0 (h.sub (List.sublist_append_right [_, _, _, _, _, _, _, _] _))
  obtain ⟨bo, bc, rfl, hbc, hbc2⟩ := hb0.form
  simp only [List.length_map] at hn hb hnc hnc2 hbc hbc2 ⊢
  obtain ⟨bs, hbs⟩ : ∃ bs, noteB kd ns (if has then some xs else none) = bs := ⟨_, rfl⟩
  have hbl : 1 ≤ bs.length ∧ bs.length ≤ 4096 := by
    rw [← hbs]
    have h0 := flat_len ns
    have h1 := putU_len xs.length
    have h2 := sz_le xs.length
    cases has <;> simp only [noteB, putB, List.length_cons, List.length_append, if_true, if_false, List.length_nil, Bool.false_eq_true] <;> omega
  have hb8 : U8 bs := by
    rw [← hbs]
    intro z hz
    rcases List.mem_cons.1 hz with rfl | hz
    · exact hkd
    rcases List.mem_append.1 hz with hz | hz
    · obtain ⟨a, _, hz⟩ := List.mem_flatMap.1 hz
      exact putU_U8 a z hz
    · cases has
      · cases hz
      · rcases List.mem_append.1 hz with hz | hz
        · exact putU_U8 _ z hz
        · exact ux z hz
  rw [hbs] at hr ⊢
  have HBs := Lib.hid hbs
  have HBl := Lib.hid hbl
  have HB8 := Lib.hid hb8
  have H := Lib.hid h
  have HN := Lib.hid hn
  have HU := Lib.hid hu
  have HB := Lib.hid hb
  have HX := Lib.hid ux
  have HR := Lib.hid hr
  have HE := Lib.hid he
  clear h hn hu hb ux hr he hn0 hb0 hbs hbl hb8
  go_enter Tryz.func44, Tryz.ntmps44
  go_wp2_with fail
  refine H.out.wrNew.mono ?_
  rintro e w1 ⟨bw, Dw, rfl, hs1⟩
  have hs2 := hs1.step (below_lit w1 (.cells #[.int .u8 kd] 5))
  have HRw := Lib.hid (hs2.wrRaw 0 rfl (lit_u8 w1 [kd] 5 (0, 0) (by simp)) (by simp))
  clear hs1 hs2 H
  go_wp2_with fail
  refine HRw.out.mono ?_
  rintro e w2 ⟨rfl, D2, hs2⟩
  have HS2 : Hid (SepW W w2 (obWr (.pointer (some ⟨bw, 0, none⟩)) D2 ([kd] ++ (ns.take 0).flatMap putU) :: ndOs q f x os)) := Lib.hid hs2
  clear hs2 HRw
  go_wp2_with fail
  go_loopw [21] (fun i wr => ∃ (k : Nat) (D : Nat → Prop), k ≤ ns.length ∧ i = .int .i64 k ∧ Hid (SepW W wr (obWr (.pointer (some ⟨bw, 0, none⟩)) D ([kd] ++ (ns.take k).flatMap putU) :: ndOs q f x os))) (fun i _ => ns.length - (intOf i).toNat)
  case atStart => exact ⟨0, D2, by omega, rfl, HS2⟩
  case round =>
    clear HS2
    obtain ⟨k, D, hk, rfl, HS⟩ := hrel
    by_cases hlt : k < ns.length
    · have hlt2 : (k : Int) < (ns.length : Int) := by omega
      obtain ⟨a, ha⟩ : ∃ a, ns[k]? = some a := ⟨_, List.getElem?_eq_getElem hlt⟩
      have hsl := HN.out.at0 (HS.out.sub (List.sublist_append_right [_, _, _, _, _, _, _, _, _] _))
      obtain ⟨b, hau, hcm⟩ := hsl.at' (m := k) (u := .int .u64 a) (by simp [ha])
      subst hau
      have htk : ns.take (k + 1) = ns.take k ++ [a] := by rw [List.take_succ_eq_append_getElem hlt]; rw [List.getElem?_eq_getElem hlt] at ha; cases ha; rfl
      have hl9 := flat_len (ns.take k)
      have HW := Lib.hid (HS.out.wrUint 0 rfl (HU.out a (List.mem_of_getElem? ha)) (by simp only [List.length_append, List.length_cons, List.length_nil]; rw [List.length_take] at hl9; omega))
      have HTk := Lib.hid htk
      clear hsl ha htk hl9
      go_wp2_with fail
      refine HW.out.mono ?_
      rintro e w4 ⟨rfl, D4, hs4⟩
      have HS4 : Hid (SepW W w4 (obWr (.pointer (some ⟨bw, 0, none⟩)) D4 ([kd] ++ (ns.take (k + 1)).flatMap putU) :: ndOs q f x os)) := Lib.hid (by rw [HTk.out, List.flatMap_append, ← List.append_assoc]; simpa using hs4)
      clear hs4
      go_wp2_with fail
      go_roundw
      case rel => exact ⟨k + 1, D4, by omega, by go_num, HS4⟩
      case measure => simp [intOf]; omega
    · have hkl : k = ns.length := by omega
      subst hkl
      rw [List.take_length] at HS
      have hkd' : decide ((ns.length : Int) < (ns.length : Int)) = false := decide_eq_false (by omega)
      have hl9 := flat_len ns
      have HWb := Lib.hid (HS.out.wrBytes 0 rfl (HB.out.at0 (HS.out.sub (List.sublist_append_right [_, _, _, _, _, _, _, _, _] _))) (fun hne k hk => HB.out.off (l := [_, _, _, _, _, _, _, _, _]) HS.out 0 rfl hne k hk) (by simp only [List.length_append, List.length_cons, List.length_nil]; omega))
      clear hlt hk hl9
      cases has
      · go_wp2_with fail
        have HSx : Hid (SepW W wr (obWr (.pointer (some ⟨bw, 0, none⟩)) D bs :: ndOs q f x os)) := Lib.hid (by have h1 := HS.out; have h2 := HBs.out; rw [← h2]; simpa [noteB] using h1)
        clear HWb HS
        generalize D = Dx at *
        obtain ⟨⟨-, -, c2, -, -, -, -, -⟩, -⟩ := HSx.out.drew.ndCell 1 rfl
        have HO := Lib.hid (HSx.out.drew.wrOut 0 rfl (by have := HBl.out; omega))
        go_region_held3 (fun w' => w'.cell? ⟨q.x, 2, none⟩ = some (.pointer (some ⟨q.s0, 0, none⟩))) (first | with_reducible exact hS7 | with_reducible exact hS8 | with_reducible exact hS9 | go_keep)
          (first
            | (go_at_call 85; (with_reducible refine HO.out.mono ?_); rintro e w7 ⟨ov, rfl, ho7, hb7⟩
               have hs7 := HSx.out.drew.newRow ho7 hb7
               obtain ⟨⟨-, -, hS7, -, -, -, -, -⟩, -⟩ := hs7.ndCell 2 rfl
               have HA := Lib.hid (hs7.sgAppend 3 4 (by decide) rfl rfl (hs7.row 0 rfl) HB8.out HBl.out.1 HBl.out.2 (fun k hk => ⟨hs7.sep.two (i := 0) (j := 3) (by decide) rfl rfl k hk, hs7.sep.two (i := 0) (j := 4) (by decide) rfl rfl k hk⟩) HR.out.e HR.out.free HR.out.fit HR.out.waits HR.out.few)
               clear ho7 hb7 hs7)
            | (go_at_call 84; (with_reducible refine HA.out.mono ?_); rintro e w8 ⟨D8, Ds8, rfl, hs8⟩
               have hs8' : SepW W w8 (obRow ov 5 1 bs.length (u8s bs) :: obWr (.pointer (some ⟨bw, 0, none⟩)) Dx bs :: ndOs q { f with d := D8, sg := Ds8 } { x with sg := (sgApp x.sg x.d bs).2.2.1, d := (sgApp x.sg x.d bs).2.2.2 } os) := hs8
               obtain ⟨⟨-, -, hS8, -, -, -, -, c7⟩, fz⟩ := hs8'.ndCell 2 rfl
               have HS8 := Lib.hid hs8'
               have hs9 : SepW W (w8.setCell ⟨q.x, 7, none⟩ (.int .i64 (sgApp x.sg x.d bs).2.1)) (obRow ov 5 1 bs.length (u8s bs) :: obWr (.pointer (some ⟨bw, 0, none⟩)) Dx bs :: ndOs q { f with d := D8, sg := Ds8 } { x with sg := (sgApp x.sg x.d bs).2.2.1, d := (sgApp x.sg x.d bs).2.2.2, e := (sgApp x.sg x.d bs).2.1 } os) := hs8'.blkSet 2 rfl 7 (.int .i64 (sgApp x.sg x.d bs).2.1)
               obtain ⟨⟨-, -, hS9, -, -, -, -, -⟩, -⟩ := hs9.ndCell 2 rfl
               have HS9 := Lib.hid hs9
               clear hs8 hs8' hs9))
        all_goals
          obtain ⟨er, her⟩ : ∃ er, (sgApp x.sg x.d bs).2.1 = er := ⟨_, rfl⟩
          obtain ⟨⟨-, -, c2, -, -, -, -, c7⟩, fz⟩ := HS9.out.ndCell 2 rfl
          by_cases h0 : er = 0
          · subst h0
            have HSy := Lib.hid (HS9.out.sgSync 3 4 (by decide) rfl rfl ((sgApp_e x.sg x.d bs her).trans HR.out.e))
            have hN : noteN x bs = { x with sg := sgSy (sgApp x.sg x.d bs).2.2.1 (sgApp x.sg x.d bs).2.2.2, d := (dkSy (sgApp x.sg x.d bs).2.2.2).2, e := (dkSy (sgApp x.sg x.d bs).2.2.2).1 } := by unfold noteN; rw [if_pos her]
            have HNN := Lib.hid hN
            rw [her] at c2 c7 fz HSy ⊢
            clear hN HS9 her
            go_wp2_with fail
            refine HSy.out.mono ?_
            rintro e w10 ⟨rfl, hs10⟩
            have hs10' : SepW W w10 (obRow ov 5 1 bs.length (u8s bs) :: obWr (.pointer (some ⟨bw, 0, none⟩)) Dx bs :: ndOs q { f with d := D8, sg := Ds8 } { x with sg := sgSy (sgApp x.sg x.d bs).2.2.1 (sgApp x.sg x.d bs).2.2.2, d := (dkSy (sgApp x.sg x.d bs).2.2.2).2, e := 0 } os) := hs10
            obtain ⟨⟨-, -, c2, -, -, -, -, c7⟩, fz⟩ := hs10'.ndCell 2 rfl
            have hs11 : SepW W (w10.setCell ⟨q.x, 7, none⟩ (.int .i64 (dkSy (sgApp x.sg x.d bs).2.2.2).1)) (obRow ov 5 1 bs.length (u8s bs) :: obWr (.pointer (some ⟨bw, 0, none⟩)) Dx bs :: ndOs q { f with d := D8, sg := Ds8 } { x with sg := sgSy (sgApp x.sg x.d bs).2.2.1 (sgApp x.sg x.d bs).2.2.2, d := (dkSy (sgApp x.sg x.d bs).2.2.2).2, e := (dkSy (sgApp x.sg x.d bs).2.2.2).1 } os) := hs10'.blkSet 2 rfl 7 _
            have HS11 := Lib.hid (hs11.sub (List.sublist_append_right [_, _] _))
            rw [← HNN.out] at HS11
            obtain ⟨y, hy⟩ : ∃ y, (dkSy (sgApp x.sg x.d bs).2.2.2).1 = y := ⟨_, rfl⟩
            have hye : (noteN x bs).e = y := by rw [HNN.out]; exact hy
            have HY := Lib.hid hye
            rw [hy] at HS11 ⊢
            clear hs10 hs10' hs11 HSy hy hye
            go_wp2_with fail
            go_ret
            rw [HY.out]
            exact ⟨by congr 2, { f with d := D8, sg := Ds8 }, HS11.out⟩
          · have hN : noteN x bs = { x with sg := (sgApp x.sg x.d bs).2.2.1, d := (sgApp x.sg x.d bs).2.2.2, e := er } := by unfold noteN; rw [if_neg (by rw [her]; exact h0), her]
            have hne : (er == 0) = false := beq_eq_false_iff_ne.2 h0
            have HS11 := Lib.hid (HS9.out.sub (List.sublist_append_right [_, _] _))
            rw [her] at c7 HS11 ⊢
            rw [← hN] at HS11
            have hye : (noteN x bs).e = er := by rw [hN]
            have HY := Lib.hid hye
            have H0 := Lib.hid h0
            clear hN HS9 her c2 fz h0 hye
            go_wp2_with fail
            go_ret
            rw [HY.out]
            exact ⟨by have h0 := H0.out; simp [h0], { f with d := D8, sg := Ds8 }, HS11.out⟩
      · go_wp2_with fail
        refine HWb.out.mono ?_
        rintro e w6 ⟨rfl, Dx, hs6⟩
        have HSx : Hid (SepW W w6 (obWr (.pointer (some ⟨bw, 0, none⟩)) Dx bs :: ndOs q f x os)) := Lib.hid (by have h1 := hs6; have h2 := HBs.out; rw [← h2]; simpa [noteB] using h1)
        clear HWb HS hs6
        go_wp2_with fail
        obtain ⟨⟨-, -, c2, -, -, -, -, -⟩, -⟩ := HSx.out.drew.ndCell 1 rfl
        have HO := Lib.hid (HSx.out.drew.wrOut 0 rfl (by have := HBl.out; omega))
        go_region_held3 (fun w' => w'.cell? ⟨q.x, 2, none⟩ = some (.pointer (some ⟨q.s0, 0, none⟩))) (first | with_reducible exact hS7 | with_reducible exact hS8 | with_reducible exact hS9 | go_keep)
          (first
            | (go_at_call 85; (with_reducible refine HO.out.mono ?_); rintro e w7 ⟨ov, rfl, ho7, hb7⟩
               have hs7 := HSx.out.drew.newRow ho7 hb7
               obtain ⟨⟨-, -, hS7, -, -, -, -, -⟩, -⟩ := hs7.ndCell 2 rfl
               have HA := Lib.hid (hs7.sgAppend 3 4 (by decide) rfl rfl (hs7.row 0 rfl) HB8.out HBl.out.1 HBl.out.2 (fun k hk => ⟨hs7.sep.two (i := 0) (j := 3) (by decide) rfl rfl k hk, hs7.sep.two (i := 0) (j := 4) (by decide) rfl rfl k hk⟩) HR.out.e HR.out.free HR.out.fit HR.out.waits HR.out.few)
               clear ho7 hb7 hs7)
            | (go_at_call 84; (with_reducible refine HA.out.mono ?_); rintro e w8 ⟨D8, Ds8, rfl, hs8⟩
               have hs8' : SepW W w8 (obRow ov 5 1 bs.length (u8s bs) :: obWr (.pointer (some ⟨bw, 0, none⟩)) Dx bs :: ndOs q { f with d := D8, sg := Ds8 } { x with sg := (sgApp x.sg x.d bs).2.2.1, d := (sgApp x.sg x.d bs).2.2.2 } os) := hs8
               obtain ⟨⟨-, -, hS8, -, -, -, -, c7⟩, fz⟩ := hs8'.ndCell 2 rfl
               have HS8 := Lib.hid hs8'
               have hs9 : SepW W (w8.setCell ⟨q.x, 7, none⟩ (.int .i64 (sgApp x.sg x.d bs).2.1)) (obRow ov 5 1 bs.length (u8s bs) :: obWr (.pointer (some ⟨bw, 0, none⟩)) Dx bs :: ndOs q { f with d := D8, sg := Ds8 } { x with sg := (sgApp x.sg x.d bs).2.2.1, d := (sgApp x.sg x.d bs).2.2.2, e := (sgApp x.sg x.d bs).2.1 } os) := hs8'.blkSet 2 rfl 7 (.int .i64 (sgApp x.sg x.d bs).2.1)
               obtain ⟨⟨-, -, hS9, -, -, -, -, -⟩, -⟩ := hs9.ndCell 2 rfl
               have HS9 := Lib.hid hs9
               clear hs8 hs8' hs9))
        all_goals
          obtain ⟨er, her⟩ : ∃ er, (sgApp x.sg x.d bs).2.1 = er := ⟨_, rfl⟩
          obtain ⟨⟨-, -, c2, -, -, -, -, c7⟩, fz⟩ := HS9.out.ndCell 2 rfl
          by_cases h0 : er = 0
          · subst h0
            have HSy := Lib.hid (HS9.out.sgSync 3 4 (by decide) rfl rfl ((sgApp_e x.sg x.d bs her).trans HR.out.e))
            have hN : noteN x bs = { x with sg := sgSy (sgApp x.sg x.d bs).2.2.1 (sgApp x.sg x.d bs).2.2.2, d := (dkSy (sgApp x.sg x.d bs).2.2.2).2, e := (dkSy (sgApp x.sg x.d bs).2.2.2).1 } := by unfold noteN; rw [if_pos her]
            have HNN := Lib.hid hN
            rw [her] at c2 c7 fz HSy ⊢
            clear hN HS9 her
            go_wp2_with fail
            refine HSy.out.mono ?_
            rintro e w10 ⟨rfl, hs10⟩
            have hs10' : SepW W w10 (obRow ov 5 1 bs.length (u8s bs) :: obWr (.pointer (some ⟨bw, 0, none⟩)) Dx bs :: ndOs q { f with d := D8, sg := Ds8 } { x with sg := sgSy (sgApp x.sg x.d bs).2.2.1 (sgApp x.sg x.d bs).2.2.2, d := (dkSy (sgApp x.sg x.d bs).2.2.2).2, e := 0 } os) := hs10
            obtain ⟨⟨-, -, c2, -, -, -, -, c7⟩, fz⟩ := hs10'.ndCell 2 rfl
            have hs11 : SepW W (w10.setCell ⟨q.x, 7, none⟩ (.int .i64 (dkSy (sgApp x.sg x.d bs).2.2.2).1)) (obRow ov 5 1 bs.length (u8s bs) :: obWr (.pointer (some ⟨bw, 0, none⟩)) Dx bs :: ndOs q { f with d := D8, sg := Ds8 } { x with sg := sgSy (sgApp x.sg x.d bs).2.2.1 (sgApp x.sg x.d bs).2.2.2, d := (dkSy (sgApp x.sg x.d bs).2.2.2).2, e := (dkSy (sgApp x.sg x.d bs).2.2.2).1 } os) := hs10'.blkSet 2 rfl 7 _
            have HS11 := Lib.hid (hs11.sub (List.sublist_append_right [_, _] _))
            rw [← HNN.out] at HS11
            obtain ⟨y, hy⟩ : ∃ y, (dkSy (sgApp x.sg x.d bs).2.2.2).1 = y := ⟨_, rfl⟩
            have hye : (noteN x bs).e = y := by rw [HNN.out]; exact hy
            have HY := Lib.hid hye
            rw [hy] at HS11 ⊢
            clear hs10 hs10' hs11 HSy hy hye
            go_wp2_with fail
            go_ret
            rw [HY.out]
            exact ⟨by congr 2, { f with d := D8, sg := Ds8 }, HS11.out⟩
          · have hN : noteN x bs = { x with sg := (sgApp x.sg x.d bs).2.2.1, d := (sgApp x.sg x.d bs).2.2.2, e := er } := by unfold noteN; rw [if_neg (by rw [her]; exact h0), her]
            have hne : (er == 0) = false := beq_eq_false_iff_ne.2 h0
            have HS11 := Lib.hid (HS9.out.sub (List.sublist_append_right [_, _] _))
            rw [her] at c7 HS11 ⊢
            rw [← hN] at HS11
            have hye : (noteN x bs).e = er := by rw [hN]
            have HY := Lib.hid hye
            have H0 := Lib.hid h0
            clear hN HS9 her c2 fz h0 hye
            go_wp2_with fail
            go_ret
            rw [HY.out]
            exact ⟨by have h0 := H0.out; simp [h0], { f with d := D8, sg := Ds8 }, HS11.out⟩
end
end Go.Proofs.YtgmdedkingampaaGreat

namespace Go.Proofs.YtgmdedkingampaaGreat
open Go.ChangeShapes Go.WideShapes Go.ChangeAt Go.RowKit Go.Maps
set_option maxRecDepth 1000000

theorem own_below {w w' : World} {base z n : Nat} {e : TypeId} {v : Value} {xs : List Value} (h : w.ownsRow base e z v n xs) (hb : Below w.heap.size w w') : w'.ownsRow base e z v n xs := own_keepS (Below.keep0 (fun _ => False) hb) h (fun _ _ hf => hf)
/-- What 'append(out, src...)' leaves, src a row of structs. -/
theorem run_appRow {P : Program} {w : World} {t ty : TypeId} (base : Nat) (e : TypeId) (i : TypeInfo) (z : Value) (size bytes : Nat) (ht : P.underlying t = some (.slice e)) (hi : P.info? e = some i) (hz : i.zero = some z)
    (hsize : i.size = size) (hby : i.bytes = bytes) (hzs : z.cells.size = size) (hsz : 0 < size) (hb24 : bytes ≤ 1024)
    {v src : Value} {n m b2 : Nat} {e2 : TypeId} {xs cs : List Value} (hown : w.ownsRow base e size v n xs) (hsrc : w.ownsRow b2 e2 size src m cs) (hu : ∀ u ∈ cs, u.oneCell' = true)
    (hlen : n + m ≤ 1000000000) (hbase : base ≤ w.heap.size) :
    ∃ v' w', (Builtin.append_ #[t, t] ty #[v, src]).run P w = .ok v' w' ∧ w'.ownsRow base e size v' (n + m) (xs ++ cs) ∧ w.grownBy w' v.ownBlock ∧ (∀ g, v'.ownBlock = some g → v.ownBlock = some g ∨ w.heap.size ≤ g) := by
  rcases hsrc.2 with ⟨rfl, rfl⟩ | ⟨g, cap, cur, rfl, _⟩
  · have hc : cs = [] := List.eq_nil_of_length_eq_zero (by rw [hsrc.1]; simp)
    subst hc
    exact ⟨v, w, run_append_none ht hi hown 0, by simpa using hown, ⟨rfl, rfl, rfl, Nat.le_refl _, fun _ _ _ => rfl⟩, fun g hg => Or.inl hg⟩
  · obtain ⟨v', w', hr, h2, h3, h4, h5⟩ := run_append_own_at (P := P) w base t ty e i z size bytes ht hi hz hsize hby hzs hsz v n xs hown ⟨g, 0, none⟩ m cap cs (by have := hsrc.1; exact this) (hsrc.cells rfl) hu (by unfold maxLen; omega)
      (by have := Nat.mul_le_mul_left (n + m) hb24; omega) hbase
    refine ⟨v', w', hr, h2, h3, fun g hg => ?_⟩
    rcases h5 with h5 | h5
    · left; rw [← h5]; exact hg
    · right; rw [h5] at hg; cases hg; exact Nat.le_refl _
theorem wp_appRow {P : Program} {w : World} {o : Oper} {a : Act} {K : Act → World → Prop} {Q : Exit → Act → World → Prop} (s x : Operand) (t : TypeId)
    (ho : o.op = .call { callee := .builtin .append, args := #[s, x], argTypes := #[t, t] })
    (base : Nat) (e : TypeId) (i : TypeInfo) (z : Value) (size bytes : Nat) (ht : P.underlying t = some (.slice e)) (hi : P.info? e = some i) (hz : i.zero = some z)
    (hsize : i.size = size) (hby : i.bytes = bytes) (hzs : z.cells.size = size) (hsz : 0 < size) (hb24 : bytes ≤ 1024)
    {v src : Value} {n m b2 : Nat} {e2 : TypeId} {xs cs : List Value} (hs : a.eval s = v) (hx : a.eval x = src) (hown : w.ownsRow base e size v n xs) (hsrc : w.ownsRow b2 e2 size src m cs) (hu : ∀ u ∈ cs, u.oneCell' = true)
    (hlen : n + m ≤ 1000000000) (hbase : base ≤ w.heap.size)
    (h : ∀ v' w', w'.ownsRow base e size v' (n + m) (xs ++ cs) → w.grownBy w' v.ownBlock → (∀ g, v'.ownBlock = some g → v.ownBlock = some g ∨ w.heap.size ≤ g) → K (a.put o.dst v') w') : o.wp P a w K Q := by
  obtain ⟨v', w', hr, h2, h3, h4⟩ := run_appRow (P := P) (t := t) (ty := o.type) base e i z size bytes ht hi hz hsize hby hzs hsz hb24 hown hsrc hu hlen hbase
  unfold Oper.wp execOp
  simp only [ho, resolve, invoke, builtin, Sem.run_bind, Sem.run_pure, Result.andThen_ok, List.map_toArray, List.map_cons, List.map_nil, hs, hx, hr]
  exact h v' w' h2 h3 h4
theorem wpList_appRow {P : Program} {w : World} {ops : Array Oper} {rest : List Oper} {o : Oper} {a : Act} {Q : Exit → Act → World → Prop} (hgd : o.guard = none) (s x : Operand) (t : TypeId)
    (ho : o.op = .call { callee := .builtin .append, args := #[s, x], argTypes := #[t, t] })
    (base : Nat) (e : TypeId) (i : TypeInfo) (z : Value) (size bytes : Nat) (ht : P.underlying t = some (.slice e)) (hi : P.info? e = some i) (hz : i.zero = some z)
    (hsize : i.size = size) (hby : i.bytes = bytes) (hzs : z.cells.size = size) (hsz : 0 < size) (hb24 : bytes ≤ 1024)
    {v src : Value} {n m b2 : Nat} {e2 : TypeId} {xs cs : List Value} (hs : a.eval s = v) (hx : a.eval x = src) (hown : w.ownsRow base e size v n xs) (hsrc : w.ownsRow b2 e2 size src m cs) (hu : ∀ u ∈ cs, u.oneCell' = true)
    (hlen : n + m ≤ 1000000000) (hbase : base ≤ w.heap.size)
    (h : ∀ v' w', w'.ownsRow base e size v' (n + m) (xs ++ cs) → w.grownBy w' v.ownBlock → (∀ g, v'.ownBlock = some g → v.ownBlock = some g ∨ w.heap.size ≤ g) → wpList P ops Q rest (a.put o.dst v') w') : wpList P ops Q (o :: rest) a w :=
  wpList_plain hgd fun _ hK => wp_appRow s x t ho base e i z size bytes ht hi hz hsize hby hzs hsz hb24 hs hx hown hsrc hu hlen hbase fun v' w' h2 h3 h4 => hK _ _ (h v' w' h2 h3 h4)
theorem step_appRow {P : Program} {w : World} {ops : Array Oper} {o : Oper} {a : Act} {K : Act → World → Prop} {Q : Exit → Act → World → Prop} {E : Prop} (hgd : o.guard = none) (s x : Operand) (t : TypeId)
    (ho : o.op = .call { callee := .builtin .append, args := #[s, x], argTypes := #[t, t] })
    (base : Nat) (e : TypeId) (i : TypeInfo) (z : Value) (size bytes : Nat) (ht : P.underlying t = some (.slice e)) (hi : P.info? e = some i) (hz : i.zero = some z)
    (hsize : i.size = size) (hby : i.bytes = bytes) (hzs : z.cells.size = size) (hsz : 0 < size) (hb24 : bytes ≤ 1024)
    {v src : Value} {n m b2 : Nat} {e2 : TypeId} {xs cs : List Value} (hs : a.eval s = v) (hx : a.eval x = src) (hown : w.ownsRow base e size v n xs) (hsrc : w.ownsRow b2 e2 size src m cs) (hu : ∀ u ∈ cs, u.oneCell' = true)
    (hlen : n + m ≤ 1000000000) (hbase : base ≤ w.heap.size)
    (h : ∀ v' w', w'.ownsRow base e size v' (n + m) (xs ++ cs) → w.grownBy w' v.ownBlock → (∀ g, v'.ownBlock = some g → v.ownBlock = some g ∨ w.heap.size ≤ g) → K (a.put o.dst v') w') : if Region.wanted o (yielded ops a.tmps) = true then Oper.wp P o a w K Q else E := by
  have hw : Region.wanted o (yielded ops a.tmps) = true := by simp [Region.wanted, hgd]
  rw [if_pos hw]
  exact wp_appRow s x t ho base e i z size bytes ht hi hz hsize hby hzs hsz hb24 hs hx hown hsrc hu hlen hbase h

/-- A slice that reads as votes, each beside its value's slice. -/
def VtS (w : World) (v : Value) (l : List (Vt × Value)) : Prop := ∃ ao c, v = .slice ao l.length c ∧ l.length ≤ c ∧ c ≤ 9223372036854775807 ∧
  ∀ (i : Nat) p, l[i]? = some p → ∃ a bo bc, ao = some a ∧ p.2 = .slice bo p.1.val.length bc ∧ w.cell? (a.add (i * 3)) = some (.int .u64 p.1.slot) ∧ w.cell? ⟨(a.add (i * 3)).block, (a.add (i * 3)).off + 1, none⟩ = some (.int .u64 p.1.ballot) ∧
    w.cell? ⟨(a.add (i * 3)).block, (a.add (i * 3)).off + 2, none⟩ = some p.2
theorem VtS.nil (w : World) : VtS w (.slice none 0 0) [] := ⟨none, 0, rfl, Nat.le_refl _, by omega, by simp⟩
theorem VtS.below {B : Nat} {w w' : World} {v : Value} {l : List (Vt × Value)} (h : VtS w v l) (hb : Below B w w') (hB : w.heap.size ≤ B) : VtS w' v l := by
  obtain ⟨ao, c, e, h1, h2, hx⟩ := h
  refine ⟨ao, c, e, h1, h2, fun i s hs => ?_⟩
  obtain ⟨a, bo, bc, ha, ef, c1, c2, c3⟩ := hx i s hs
  refine ⟨a, bo, bc, ha, ef, ?_, ?_, ?_⟩
  · rw [hb.cell (by have := World.block_lt_of_cell? w _ c1; omega)]; exact c1
  · rw [hb.cell (by have := World.block_lt_of_cell? w _ c2; omega)]; exact c2
  · rw [hb.cell (by have := World.block_lt_of_cell? w _ c3; omega)]; exact c3
/-- The cells of proposals for all. -/
def accC (l : List (Vt × Value)) (ps : List Int) : List Value := l.flatMap (fun p => allC ps 9 p.1.ballot p.1.slot p.2)
theorem accC_take {l : List (Vt × Value)} {k : Nat} {p : Vt × Value} (h : l[k]? = some p) (ps : List Int) : accC (l.take (k + 1)) ps = accC (l.take k) ps ++ allC ps 9 p.1.ballot p.1.slot p.2 := by
  obtain ⟨h1, h2⟩ := List.getElem?_eq_some_iff.1 h
  unfold accC
  rw [List.take_succ_eq_append_getElem h1, h2, List.flatMap_append]
  simp
theorem allC_one (ts : List Int) (kd b s : Int) (bo : Option Addr) (bn bc : Nat) : ∀ u ∈ allC ts kd b s (.slice bo bn bc), u.oneCell' = true := by
  intro u hu
  obtain ⟨t, _, hu⟩ := List.mem_flatMap.1 hu
  simp at hu
  rcases hu with rfl | rfl | rfl | rfl | rfl | rfl | rfl | rfl | rfl | rfl | rfl | rfl <;> rfl
theorem cells4 {w w' : World} {p0 p1 p2 p3 : Addr} {v0 v1 v2 v3 : Value} (hb : Below w.heap.size w w') (h : w.cell? p0 = some v0 ∧ w.cell? p1 = some v1 ∧ w.cell? p2 = some v2 ∧ w.cell? p3 = some v3) : w'.cell? p0 = some v0 ∧ w'.cell? p1 = some v1 ∧ w'.cell? p2 = some v2 ∧ w'.cell? p3 = some v3 :=
  ⟨(hb.cell (World.block_lt_of_cell? w _ h.1)).trans h.1, (hb.cell (World.block_lt_of_cell? w _ h.2.1)).trans h.2.1, (hb.cell (World.block_lt_of_cell? w _ h.2.2.1)).trans h.2.2.1, (hb.cell (World.block_lt_of_cell? w _ h.2.2.2)).trans h.2.2.2⟩
theorem cells4g {S : Nat → Prop} {w w' : World} {xa V : Nat} {v0 v1 v2 v3 : Value} (hk : Keep S w w') (hf : ∀ k, S k → k ≠ xa ∧ k ≠ V) (h : w.cell? ⟨xa, 1, none⟩ = some v0 ∧ w.cell? ⟨V, 0, none⟩ = some v1 ∧ w.cell? ⟨V, 1, none⟩ = some v2 ∧ w.cell? ⟨V, 2, none⟩ = some v3) : w'.cell? ⟨xa, 1, none⟩ = some v0 ∧ w'.cell? ⟨V, 0, none⟩ = some v1 ∧ w'.cell? ⟨V, 1, none⟩ = some v2 ∧ w'.cell? ⟨V, 2, none⟩ = some v3 :=
  ⟨hk.cell h.1 (fun hs => (hf _ hs).1 rfl), hk.cell h.2.1 (fun hs => (hf _ hs).2 rfl), hk.cell h.2.2.1 (fun hs => (hf _ hs).2 rfl), hk.cell h.2.2.2 (fun hs => (hf _ hs).2 rfl)⟩
theorem cells4_drew {w : World} {p0 p1 p2 p3 : Addr} {v0 v1 v2 v3 : Value} (h : w.cell? p0 = some v0 ∧ w.cell? p1 = some v1 ∧ w.cell? p2 = some v2 ∧ w.cell? p3 = some v3) : w.drew.cell? p0 = some v0 ∧ w.drew.cell? p1 = some v1 ∧ w.drew.cell? p2 = some v2 ∧ w.drew.cell? p3 = some v3 := h
set_option maxHeartbeats 4000000 in
theorem nd_accepts {w : World} {tv pv : Value} {l : List (Vt × Value)} {ps : List Int} {xa : Nat} (hc : w.cell? ⟨xa, 1, none⟩ = some pv) (hp : SlR w pv (i64s ps)) (hps : ps.length ≤ 7) (h : VtS w tv l) (hl : l.length ≤ 1000000) :
    Calls Tryz.prog 28 #[.pointer (some ⟨xa, 0, none⟩), tv] w fun e w' => ∃ ao c, e = .returned (.slice ao (l.length * ps.length) c) ∧ w'.ownsRow w.heap.size 85 12 (.slice ao (l.length * ps.length) c) (l.length * ps.length) (accC l ps) ∧ Below w.heap.size w w' := by
  obtain ⟨i0, hi, hz0, hz1, hz2⟩ := info_parts Tryz.outInfo
  obtain ⟨ao, ac, rfl, hac, hac2, hx⟩ := id h
  obtain ⟨po, pc, rfl, hpc, hpc2⟩ := hp.form
  simp only [List.length_map] at hp hc hpc hpc2
  have H := Lib.hid h
  have HC := Lib.hid hc
  have HP := Lib.hid hp
  clear h hx hc hp
  go_enter Tryz.func28, Tryz.ntmps28
  go_wp2_with fail
  go_loopw [5, 10] (fun ov i wr => ∃ (k : Nat) (go : Option Addr) (c : Nat), k ≤ l.length ∧ i = .int .i64 k ∧ ov = .slice go (k * ps.length) c ∧ Hid (wr.ownsRow w.heap.size 85 12 (.slice go (k * ps.length) c) (k * ps.length) (accC (l.take k) ps)) ∧ Hid (Below w.heap.size w wr)) (fun _ i _ => l.length - (intOf i).toNat)
  case atStart => exact ⟨0, none, 0, by omega, rfl, by rw [Nat.zero_mul], Lib.hid (by rw [Nat.zero_mul]; exact World.ownsRow_nil _ _ _ _), Lib.hid (Below.refl _ _)⟩
  case round =>
    obtain ⟨k, go, c, hk, rfl, rfl, hown, hbl⟩ := hrel
    by_cases hlt : k < l.length
    · have hlt2 : (k : Int) < (l.length : Int) := by omega
      obtain ⟨p, ht⟩ : ∃ p, l[k]? = some p := ⟨_, List.getElem?_eq_getElem hlt⟩
      obtain ⟨ao', ac', e1, -, -, hx⟩ := H.out.below hbl.out (Nat.le_refl _)
      cases e1
      obtain ⟨a, bo, bc, hau, hpe, d0, d1, d2⟩ := hx k p ht
      subst hau
      have HT := Lib.hid (accC_take ht ps)
      obtain ⟨pvt, pvl⟩ := p
      simp only at hpe d0 d1 d2 HT
      subst hpe
      have hm9 : k * ps.length ≤ 1000000 * 7 := Nat.mul_le_mul (by omega) hps
      obtain ⟨W1, hW1⟩ : ∃ x, x = wr.alloc (.cells #[.int .u64 pvt.slot, .int .u64 pvt.ballot, .slice bo pvt.val.length bc] 80) := ⟨_, rfl⟩
      obtain ⟨V, hV⟩ : ∃ V, wr.heap.size = V := ⟨_, rfl⟩
      have hfar : ∀ j, (Value.slice go (k * ps.length) c).ownBlock = some j → j ≠ xa ∧ j ≠ V := fun j hj => by have h1 := hown.out.lt j hj; have h2 := World.block_lt_of_cell? w _ HC.out; simp only at h2; omega
      have hb1 : Below w.heap.size w W1 := by rw [hW1]; exact hbl.out.alloc hbl.out.size _
      have hown1 : W1.ownsRow w.heap.size 85 12 (.slice go (k * ps.length) c) (k * ps.length) (accC (l.take k) ps) := by rw [hW1]; exact hown.out.alloc _
      have hcx : W1.cell? ⟨xa, 1, none⟩ = some (.slice po ps.length pc) := (hb1.cell (World.block_lt_of_cell? w _ HC.out)).trans HC.out
      have e0 : W1.cell? ⟨V, 0, none⟩ = some (.int .u64 pvt.slot) := by rw [hW1, ← hV]; exact World.news_of_block (heap_alloc_new wr _) 0 _ rfl
      have e1 : W1.cell? ⟨V, 1, none⟩ = some (.int .u64 pvt.ballot) := by rw [hW1, ← hV]; exact World.news_of_block (heap_alloc_new wr _) 1 _ rfl
      have e2 : W1.cell? ⟨V, 2, none⟩ = some (.slice bo pvt.val.length bc) := by rw [hW1, ← hV]; exact World.news_of_block (heap_alloc_new wr _) 2 _ rfl
      have HA := Lib.hid (all_any (w := W1.drew) (HP.out.below hb1.drew (Nat.le_refl _)) (by omega : ps.length ≤ 100000) 9 pvt.ballot pvt.slot bo pvt.val.length bc)
      have HW1 := Lib.hid hW1
      have HB1 := Lib.hid hb1.drew
      have HO1 := Lib.hid hown1.drew
      have HV := Lib.hid hV
      clear hW1 hb1 hown1 hx ht hV
      go_wp2_with fail
      rw [← HW1.out, HV.out]
      go_region_held3 (fun w' => w'.cell? ⟨xa, 1, none⟩ = some (.slice po ps.length pc) ∧ w'.cell? ⟨V, 0, none⟩ = some (.int .u64 pvt.slot) ∧ w'.cell? ⟨V, 1, none⟩ = some (.int .u64 pvt.ballot) ∧ w'.cell? ⟨V, 2, none⟩ = some (.slice bo pvt.val.length bc)) (first | with_reducible exact hS7 | with_reducible exact hS8 | go_keep)
        (first
          | (go_at_call 36; (with_reducible refine HA.out.mono ?_); rintro e w7 ⟨ao7, c7, rfl, ho7, hb7⟩
             have hS7 := cells4 hb7 (cells4_drew ⟨hcx, e0, e1, e2⟩)
             have HO7 := Lib.hid ho7
             have HB7 := Lib.hid hb7
             clear ho7 hb7)
          | (refine step_appRow rfl (.tmp 14) (.tmp 26) 28 rfl w.heap.size 85 i0 _ 12 128 Tryz.underlying28 hi hz0 hz1 hz2 rfl (by decide) (by decide) rfl rfl (own_below HO1.out HB7.out) HO7.out (allC_one _ _ _ _ _ _ _) (by omega) (Nat.le_trans HB1.out.size HB7.out.size) ?_
             intro v8 w8 ho8 hg8 hl8
             have hS8 := cells4g (Keep.grown (S := fun j => (Value.slice go (k * ps.length) c).ownBlock = some j) hg8 (fun k hk => hk)) (fun k hk => hfar k hk) hS7
             have HO8 := Lib.hid ho8
             have HG8 := Lib.hid hg8
             clear ho8 hg8 hl8))
      have hb8 := (HB1.out.trans (HB7.out.mono HB1.out.size)).grown HG8.out (Nat.le_trans HB1.out.size HB7.out.size) (fun j hj => (hown.out.lt j hj).1)
      have HB8 := Lib.hid hb8
      obtain ⟨ao8, c8, rfl, -, -⟩ := own_form HO8.out
      clear hb8
      go_wp2_with fail
      go_roundw
      case rel => exact ⟨k + 1, _, _, by omega, by go_num, by rw [Nat.succ_mul], Lib.hid (by rw [HT.out, Nat.succ_mul]; exact HO8.out), HB8⟩
      case measure => simp [intOf]; omega
    · have : k = l.length := by omega
      subst this
      have hkd : decide ((l.length : Int) < (l.length : Int)) = false := decide_eq_false (by omega)
      rw [List.take_length] at hown
      clear hlt hk
      go_wp2_with fail
      go_ret
      exact ⟨go, c, rfl, hown.out, hbl.out⟩
end Go.Proofs.YtgmdedkingampaaGreat
