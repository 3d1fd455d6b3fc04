/-
  Package nums: how many bytes a number has.
-/
import Derived.Test.YtgmdedkingampaaGreatNumR
import Derived.Test.YtgmdedkingampaaGreatClo
import Derived.Test.YtgmdedkingampaaGreatNumP
import Derived.Test.YtgmdedkingampaaGreatLibT
import Derived.Laws.BitsLemmas
import Derived.Deep.RegionLaw
set_option linter.unusedVariables false
set_option linter.unusedSimpArgs false
namespace Go.Proofs.YtgmdedkingampaaGreat
open Go.ChangeShapes Go.WideShapes Go.ChangeAt Go.RowKit Go.Maps
set_option maxRecDepth 100000

/-- What 'Raw' and 'Bytes' come to. -/
def RetB (D : Nat → Prop) (b0 : Nat) (q : RS × List Int) (w : World) (e : Ending) (w' : World) : Prop :=
  ∃ ao c v', e = .returned (.slice ao q.2.length c) ∧ w'.ownsRow w.heap.size 5 1 (.slice ao q.2.length c) q.2.length (u8s q.2) ∧ RdR w' D b0 v' q.1 ∧ Keep (fun k => k = b0) w w'
set_option maxHeartbeats 1000000 in
theorem rraw_any {D : Nat → Prop} {w : World} {b0 : Nat} {v : Value} {r : RS} (h : RdR w D b0 v r) {n : Int} (hn : n ≤ 1000000000) :
    Calls Tryz.prog 103 #[.pointer (some ⟨b0, 0, none⟩), .int .i64 n] w (RetB D b0 (rRaw n r) w) := by
  have H := Lib.hid h
  by_cases h0 : n < 0
  · have hR : rRaw n r = (rFail 1 r, []) := by simp [rRaw, h0]
    rw [hR]
    clear h hR
    go_enter Tryz.func103, Tryz.ntmps103
    go_wp2_with fail
    refine (fail_any H.out 1).mono ?_
    rintro e w1 ⟨rfl, h1, hk1⟩
    go_wp2_with fail
    go_ret
    exact ⟨none, 0, v, rfl, World.ownsRow_nil _ _ _ _, h1, hk1⟩
  · obtain ⟨m, rfl⟩ := Int.eq_ofNat_of_zero_le (show 0 ≤ n by omega)
    have hR : rRaw (m : Int) r = rTake m r := by simp [rRaw]; omega
    rw [hR]
    have HT := Lib.hid (take_any h m (by omega))
    have hb8 := rTake_b (n := m) h.u8 h.few
    have hd0 : decide ((m : Int) < 0) = false := decide_eq_false (by omega)
    unfold RetTk at HT
    generalize rTake m r = q at *
    obtain ⟨r1, l⟩ := q
    simp only at hb8
    clear h hR h0
    go_enter Tryz.func103, Tryz.ntmps103
    go_wp2_with fail
    refine HT.out.mono ?_
    rintro e w1 ⟨v1, ao, c, rfl, h1, hs1, hk1⟩
    have HC := Lib.hid (cloneB_any hs1 hb8.2.2.2)
    have H1 := Lib.hid h1
    have HK1 := Lib.hid hk1
    clear h1 hk1 hs1 HT
    go_wp2_with fail
    refine HC.out.mono ?_
    rintro e w2 ⟨v2, rfl, ho, hb⟩
    obtain ⟨ko, kc, rfl, _, _⟩ := own_form ho
    have HO := Lib.hid ho
    have HB := Lib.hid hb
    clear ho hb
    go_wp2_with fail
    go_ret
    exact ⟨ko, kc, v1, rfl, HO.out.weaken HK1.out.size, H1.out.step HB.out, HK1.out.trans (Below.keep0 _ HB.out)⟩
theorem rerr_any {D : Nat → Prop} {w : World} {b0 : Nat} {v : Value} {r : RS} (h : RdR w D b0 v r) :
    Calls Tryz.prog 121 #[.pointer (some ⟨b0, 0, none⟩)] w fun e w' => e = .returned (.int .i64 r.e) ∧ w = w' := by
  obtain ⟨c0, c1, z0, z1⟩ := h.cell
  clear h
  go_enter Tryz.func121, Tryz.ntmps121
  go_wp2
  go_ret
  exact ⟨rfl, rfl⟩
theorem rend_any {D : Nat → Prop} {w : World} {b0 : Nat} {v : Value} {r : RS} (h : RdR w D b0 v r) :
    Calls Tryz.prog 106 #[.pointer (some ⟨b0, 0, none⟩)] w fun e w' => e = .returned (.int .i64 (rEnd r)) ∧ w = w' := by
  obtain ⟨ao, c, rfl, hc1, hc2⟩ := h.sl.form
  have hlen : (u8s r.b).length = r.b.length := by simp
  rw [hlen] at h hc1
  clear hlen
  obtain ⟨c0, c1, z0, z1⟩ := h.cell
  have HE := Lib.hid (rerr_any h)
  unfold rEnd
  by_cases he : r.e = 0
  · have hb : (r.e != 0) = false := by simp [he]
    rw [if_neg (by simp [he])]
    by_cases hl : r.b.length = 0
    · rw [if_neg (by omega)]
      have hd : decide ((0 : Int) < (r.b.length : Int)) = false := decide_eq_false (by omega)
      have hd2 : decide (0 < r.b.length) = false := decide_eq_false (by omega)
      clear h he hl
      go_enter Tryz.func106, Tryz.ntmps106
      go_wp2_with fail
      refine HE.out.mono ?_
      rintro e w1 ⟨rfl, rfl⟩
      go_wp2_with fail
      go_ret
      exact ⟨rfl, rfl⟩
    · rw [if_pos (by omega)]
      have hd : decide ((0 : Int) < (r.b.length : Int)) = true := decide_eq_true (by omega)
      have hd2 : 0 < r.b.length := by omega
      clear h he hl
      go_enter Tryz.func106, Tryz.ntmps106
      go_wp2_with fail
      refine HE.out.mono ?_
      rintro e w1 ⟨rfl, rfl⟩
      go_wp2_with fail
      go_ret
      exact ⟨rfl, rfl⟩
  · have hb : (r.e != 0) = true := by simp [he]
    rw [if_pos he]
    clear h he
    go_enter Tryz.func106, Tryz.ntmps106
    go_wp2_with fail
    refine HE.out.mono ?_
    rintro e w1 ⟨rfl, rfl⟩
    go_wp2_with fail
    go_ret
    exact ⟨rfl, rfl⟩
theorem new_reader {sv : Value} {xs : List Int} {w : World} (h : SlR w sv (u8s xs)) (h8 : U8 xs) (hl : xs.length ≤ 1000000000) : Calls Tryz.prog 102 #[sv] w fun e w' =>
    ∃ b0 v, e = .returned (.pointer (some ⟨b0, 0, none⟩)) ∧ RdR w' (fun k => w.heap.size ≤ k ∧ k < w'.heap.size) b0 v ⟨xs, 0⟩ ∧ Below w.heap.size w w' := by
  have HC := Lib.hid (cloneB_any h hl)
  clear h
  go_enter Tryz.func102, Tryz.ntmps102
  go_wp2_with fail
  refine HC.out.mono ?_
  rintro e w1 ⟨v1, rfl, ho, hb⟩
  obtain ⟨ko, kc, rfl, _, _⟩ := own_form ho
  have HO := Lib.hid ho
  have HB := Lib.hid hb
  have hsz := hb.size
  clear ho hb
  go_wp2_with fail
  go_ret
  refine ⟨w1.heap.size, _, rfl, ⟨heap_alloc_new w1 _, (SlR.of_own HO.out).below ((Below.refl _ _).alloc (Nat.le_refl _) _) (Nat.le_refl _), ⟨hsz, by simp⟩, fun k hk => ?_, fun k hk => hk.2, h8, hl⟩, HB.out.alloc hsz _⟩
  have := HO.out.lt k hk
  exact ⟨⟨this.1, by simp; omega⟩, by omega⟩
set_option maxHeartbeats 1000000 in
theorem rbytes_any {D : Nat → Prop} {w : World} {b0 : Nat} {v : Value} {r : RS} (h : RdR w D b0 v r) {most : Nat} (hm : most ≤ 1000000000) :
    Calls Tryz.prog 105 #[.pointer (some ⟨b0, 0, none⟩), .int .i64 most] w (RetB D b0 (rB most r) w) := by
  have HU := Lib.hid (ruint_any h)
  obtain ⟨hx0, hx1⟩ := rU_bd h.u8 h.few
  unfold RetU at HU
  have hR : rB most r = if (rU r).1.e ≠ 0 then ((rU r).1, []) else if (rU r).2 > most then (rFail 13 (rU r).1, []) else rTake (rU r).2.toNat (rU r).1 := rfl
  generalize rB most r = res at *
  generalize rU r = q at *
  obtain ⟨r1, x⟩ := q
  simp only at hR hx0 hx1
  have hwm : IntKind.u64.wrap (most : Int) = (most : Int) := IntWalk.u64_in _ (by omega)
  have hm0 : decide ((most : Int) < 0) = false := decide_eq_false (by omega)
  clear h
  by_cases he : r1.e = 0
  · have hb : (r1.e != 0) = false := by simp [he]
    rw [if_neg (by simp [he])] at hR
    by_cases hgt : x > most
    · rw [if_pos hgt] at hR
      have hgd : decide ((most : Int) < x) = true := decide_eq_true hgt
      have HR := Lib.hid hR
      clear hR he
      go_enter Tryz.func105, Tryz.ntmps105
      go_wp2_with fail
      refine HU.out.mono ?_
      rintro e w1 ⟨rfl, v1, h1, hk1⟩
      have H1 := Lib.hid h1
      have HK1 := Lib.hid hk1
      clear h1 hk1 HU
      go_wp2_with fail
      refine (rerr_any H1.out).mono ?_
      rintro e w1' ⟨rfl, rfl⟩
      go_wp2_with fail
      refine (fail_any H1.out 13).mono ?_
      rintro e w2 ⟨rfl, h2, hk2⟩
      go_wp2_with fail
      go_ret
      rw [HR.out]
      exact ⟨none, 0, v1, rfl, World.ownsRow_nil _ _ _ _, h2, HK1.out.trans hk2⟩
    · rw [if_neg hgt] at hR
      have hgd : decide ((most : Int) < x) = false := decide_eq_false hgt
      have hwx : IntKind.i64.wrap x = x := IntWalk.i64_in _ (by omega)
      have hR2 : res = rRaw x r1 := by rw [hR]; unfold rRaw; rw [if_neg (by omega)]
      have HR := Lib.hid hR2
      clear hR hR2 he
      go_enter Tryz.func105, Tryz.ntmps105
      go_wp2_with fail
      refine HU.out.mono ?_
      rintro e w1 ⟨rfl, v1, h1, hk1⟩
      have H1 := Lib.hid h1
      have HK1 := Lib.hid hk1
      clear h1 hk1 HU
      go_wp2_with fail
      refine (rerr_any H1.out).mono ?_
      rintro e w1' ⟨rfl, rfl⟩
      go_wp2_with fail
      refine (rraw_any H1.out (by omega)).mono ?_
      rintro e w2 ⟨ao, c, v2, rfl, ho, h2, hk2⟩
      rw [← HR.out] at ho h2 ⊢
      have HO := Lib.hid ho
      have H2 := Lib.hid h2
      have HK2 := Lib.hid hk2
      clear ho h2 hk2
      go_wp2_with fail
      go_ret
      exact ⟨ao, c, v2, rfl, HO.out.weaken HK1.out.size, H2.out, HK1.out.trans HK2.out⟩
  · have hb : (r1.e != 0) = true := by simp [he]
    rw [if_pos he] at hR
    have HR := Lib.hid hR
    clear hR he
    go_enter Tryz.func105, Tryz.ntmps105
    go_wp2_with fail
    refine HU.out.mono ?_
    rintro e w1 ⟨rfl, v1, h1, hk1⟩
    have H1 := Lib.hid h1
    have HK1 := Lib.hid hk1
    clear h1 hk1 HU
    go_wp2_with fail
    refine (rerr_any H1.out).mono ?_
    rintro e w1' ⟨rfl, rfl⟩
    go_wp2_with fail
    go_ret
    rw [HR.out]
    exact ⟨none, 0, v1, rfl, World.ownsRow_nil _ _ _ _, H1.out, HK1.out⟩

/-- A reader at p, all of whose blocks are of D. -/
def RdO (p : Value) (D : Nat → Prop) (w : World) (r : RS) : Prop := ∃ b0 v, p = .pointer (some ⟨b0, 0, none⟩) ∧ RdR w D b0 v r
def obRd (p : Value) (D : Nat → Prop) (r : RS) : Ob := ⟨D, fun w => RdO p D w r⟩
theorem obRd_good (p : Value) (D : Nat → Prop) (r : RS) : (obRd p D r).Good :=
  ⟨fun ⟨b0, v, e, h⟩ hk hs => ⟨b0, v, e, h.keep hk hs⟩, fun ⟨_, _, _, h⟩ k hk => h.lt k hk⟩
/-- One new row. -/
theorem Sep.row {B : Nat} {w : World} {v : Value} {e : TypeId} {n : Nat} {xs : List Value} (h : w.ownsRow B e 1 v n xs) (hB : B ≤ w.heap.size) : Sep B w [obRow v e 1 n xs] := by
  refine ⟨fun o ho => ?_, fun o ho => ?_, fun o ho k hk => ?_, List.pairwise_singleton _ _, hB⟩
  · rw [List.mem_singleton.1 ho]; exact obRow_good ..
  · rw [List.mem_singleton.1 ho]; exact h.weaken (Nat.zero_le _)
  · rw [List.mem_singleton.1 ho] at hk; exact (h.lt k hk).1
section
variable {W w : World} {os : List Ob} {p : Value} {D : Nat → Prop} {r : RS}
theorem SepW.rdNew (h : SepW W w os) {sv : Value} {xs : List Int} (hs : SlR w sv (u8s xs)) (h8 : U8 xs) (hl : xs.length ≤ 1000000000) : Calls Tryz.prog 102 #[sv] w fun e w' => ∃ b0 D, e = .returned (.pointer (some ⟨b0, 0, none⟩)) ∧ SepW W w' (obRd (.pointer (some ⟨b0, 0, none⟩)) D ⟨xs, 0⟩ :: os) :=
  (new_reader hs h8 hl).mono fun e w' ⟨b0, v, h1, h2, h3⟩ => ⟨_, _, h1, h.new h3 (obRd_good ..) ⟨b0, v, rfl, h2⟩ (fun k hk => hk.1)⟩
theorem SepW.rdUint (h : SepW W w os) (i : Nat) (hi : os[i]? = some (obRd p D r)) :
    Calls Tryz.prog 104 #[p] w fun e w' => e = .returned (.int .u64 (rU r).2) ∧ SepW W w' (os.set i (obRd p D (rU r).1)) := by
  obtain ⟨b0, v, rfl, hr⟩ := (h.get i hi : RdO p D w r)
  exact (ruint_any hr).mono fun e w' ⟨h1, v', h2, h3⟩ => ⟨h1, h.set i hi (h3.mono (fun k _ e => by subst e; exact hr.d0)) (obRd_good ..) ⟨b0, v', rfl, h2⟩ (fun k hk => Or.inl hk)⟩
theorem SepW.rdErr (h : SepW W w os) (i : Nat) (hi : os[i]? = some (obRd p D r)) : Calls Tryz.prog 121 #[p] w fun e w' => e = .returned (.int .i64 r.e) ∧ w = w' := by
  obtain ⟨b0, v, rfl, hr⟩ := (h.get i hi : RdO p D w r)
  exact rerr_any hr
theorem SepW.rdEnd (h : SepW W w os) (i : Nat) (hi : os[i]? = some (obRd p D r)) : Calls Tryz.prog 106 #[p] w fun e w' => e = .returned (.int .i64 (rEnd r)) ∧ w = w' := by
  obtain ⟨b0, v, rfl, hr⟩ := (h.get i hi : RdO p D w r)
  exact rend_any hr
theorem SepW.rdRaw (h : SepW W w os) (i : Nat) (hi : os[i]? = some (obRd p D r)) {n : Int} (hn : n ≤ 1000000000) :
    Calls Tryz.prog 103 #[p, .int .i64 n] w fun e w' => ∃ ao c, e = .returned (.slice ao (rRaw n r).2.length c) ∧ SepW W w' (obRow (.slice ao (rRaw n r).2.length c) 5 1 (rRaw n r).2.length (u8s (rRaw n r).2) :: os.set i (obRd p D (rRaw n r).1)) := by
  obtain ⟨b0, v, rfl, hr⟩ := (h.get i hi : RdO p D w r)
  exact (rraw_any hr hn).mono fun e w' ⟨ao, c, v', h1, h2, h3, h4⟩ => ⟨ao, c, h1, h.setNew i hi (h4.mono (fun k _ e => by subst e; exact hr.d0)) (obRd_good ..) ⟨b0, v', rfl, h3⟩ (fun k hk => hk) (Sep.row h2 h4.size)⟩
theorem SepW.rdBytes (h : SepW W w os) (i : Nat) (hi : os[i]? = some (obRd p D r)) {most : Nat} (hn : most ≤ 1000000000) :
    Calls Tryz.prog 105 #[p, .int .i64 most] w fun e w' => ∃ ao c, e = .returned (.slice ao (rB most r).2.length c) ∧ SepW W w' (obRow (.slice ao (rB most r).2.length c) 5 1 (rB most r).2.length (u8s (rB most r).2) :: os.set i (obRd p D (rB most r).1)) := by
  obtain ⟨b0, v, rfl, hr⟩ := (h.get i hi : RdO p D w r)
  exact (rbytes_any hr hn).mono fun e w' ⟨ao, c, v', h1, h2, h3, h4⟩ => ⟨ao, c, h1, h.setNew i hi (h4.mono (fun k _ e => by subst e; exact hr.d0)) (obRd_good ..) ⟨b0, v', rfl, h3⟩ (fun k hk => hk) (Sep.row h2 h4.size)⟩
theorem SepW.rdFacts (h : SepW W w os) (i : Nat) (hi : os[i]? = some (obRd p D r)) : U8 r.b ∧ r.b.length ≤ 1000000000 := by
  obtain ⟨b0, v, rfl, hr⟩ := (h.get i hi : RdO p D w r)
  exact ⟨hr.u8, hr.few⟩
end
end Go.Proofs.YtgmdedkingampaaGreat

namespace Go.Proofs.YtgmdedkingampaaGreat
open Go.ChangeShapes Go.WideShapes Go.ChangeAt Go.RowKit Go.Maps
set_option maxRecDepth 100000

set_option maxHeartbeats 1000000 in
theorem size_any {x : Int} (hx : U1 x) (w : World) : Calls Tryz.prog 113 #[.int .u64 x] w fun e w' => e = .returned (.int .i64 (sz x)) ∧ w = w' := by
  obtain ⟨hx0, hx1⟩ := hx
  go_enter Tryz.func113, Tryz.ntmps113
  go_wp2
  go_step3
  go_wp2
  go_step3
  go_wp2
  go_loopg [3] 8 (fun m i wr => m ≤ 8 ∧ i = .int .i64 ((8 - m : Nat) : Int) ∧ szF m (8 - m) x = sz x ∧ w = wr)
  case atStart => exact ⟨by omega, rfl, rfl, rfl⟩
  case round =>
    obtain ⟨hm, rfl, hr, rfl⟩ := hrel
    obtain ⟨k, hk⟩ : ∃ k : Nat, 8 - gk = k := ⟨_, rfl⟩
    rw [hk] at hr ⊢
    have HR := Lib.hid hr
    clear hr
    have hp : (2 : Int) ^ (8 * k) = 256 ^ k := by rw [Int.pow_mul]; rfl
    by_cases h8 : k < 8
    · have h8i : (k : Int) < 8 := by omega
      obtain ⟨g, rfl⟩ : ∃ g, gk = g + 1 := ⟨gk - 1, by omega⟩
      by_cases hz : x / 256 ^ k = 0
      · have hb : (x / 2 ^ (8 * k) == 0) = true := by rw [hp, beq_iff_eq]; exact hz
        have hs := HR.out
        unfold szF at hs
        rw [if_pos hz] at hs
        have HS := Lib.hid hs
        clear hs hz hp
        go_wp2_with fail
        rw [Exit.noGoto_ret]
        go_ret
        rw [HS.out]
        exact ⟨rfl, rfl⟩
      · have hb : (x / 2 ^ (8 * k) == 0) = false := by rw [hp, beq_eq_false_iff_ne]; exact hz
        have hs := HR.out
        unfold szF at hs
        rw [if_neg hz] at hs
        have HS := Lib.hid hs
        have hk2 : 8 - g = k + 1 := by omega
        have HK2 := Lib.hid hk2
        clear hs hz hp hk hk2
        go_wp2_with fail
        go_roundg g
        case rel => exact ⟨by omega, by rw [HK2.out]; go_num, by rw [HK2.out]; exact HS.out, rfl⟩
        case measure => omega
    · have hk8 : k = 8 := by omega
      have hg0 : gk = 0 := by omega
      subst hk8 hg0
      have hs : (8 : Nat) = sz x := HR.out
      have HS := Lib.hid hs
      clear hp hs hk
      go_wp2_with fail
      rw [Exit.noGoto_ret]
      go_ret
      rw [← HS.out]
      exact ⟨rfl, rfl⟩

/-- A writer at b0 that has put ws. -/
structure WrR (w : World) (D : Nat → Prop) (b0 : Nat) (v : Value) (ws : List Int) : Prop where
  blk : w.heap[b0]? = some (.cells #[v] 191 (0, 0))
  own : w.ownsRow 0 5 1 v ws.length (u8s ws)
  d0 : D b0
  dv : ∀ k, v.ownBlock = some k → D k ∧ k ≠ b0
  lt : ∀ k, D k → k < w.heap.size
theorem WrR.keep {S D : Nat → Prop} {w w' : World} {b0 : Nat} {v : Value} {ws : List Int} (h : WrR w D b0 v ws) (hk : Keep S w w') (hS : ∀ k, S k → ¬ D k) : WrR w' D b0 v ws :=
  ⟨(hk.block b0 (h.lt _ h.d0) (fun hs => hS _ hs h.d0)).trans h.blk, own_keepS hk h.own (fun k hv hs => hS k hs (h.dv k hv).1), h.d0, h.dv, fun k hd => Nat.lt_of_lt_of_le (h.lt k hd) hk.size⟩
theorem WrR.cell {D : Nat → Prop} {w : World} {b0 : Nat} {v : Value} {ws : List Int} (h : WrR w D b0 v ws) : w.cell? ⟨b0, 0, none⟩ = some v ∧ w.frozen? ⟨b0, 0, none⟩ = false := by
  have := h.blk
  simp [World.cell?, World.frozen?, this]
theorem WrR.drew {D : Nat → Prop} {w : World} {b0 : Nat} {v : Value} {ws : List Int} (h : WrR w D b0 v ws) : WrR w.drew D b0 v ws := ⟨h.blk, h.own.drew, h.d0, h.dv, h.lt⟩
/-- Behind an append to what was put: as the cell still stands, and as it is stored. -/
theorem WrR.app {D : Nat → Prop} {w w2 : World} {b0 : Nat} {v v' : Value} {ws zs : List Int} (h : WrR w D b0 v ws) (hown : w2.ownsRow 0 5 1 v' zs.length (u8s zs)) (hb : Below 0 w w2) (hg : ∀ g, v'.ownBlock = some g → v.ownBlock = some g ∨ w.heap.size ≤ g)
    (hk : ∀ k, k < w.heap.size → some k ≠ v.ownBlock → w2.heap[k]? = w.heap[k]?) :
    w2.cell? ⟨b0, 0, none⟩ = some v ∧ w2.frozen? ⟨b0, 0, none⟩ = false ∧ WrR (w2.setCell ⟨b0, 0, none⟩ v') (fun k => D k ∨ v'.ownBlock = some k) b0 v' zs ∧ Moved D (fun k => D k ∨ v'.ownBlock = some k) w (w2.setCell ⟨b0, 0, none⟩ v') := by
  have hb0 := h.lt _ h.d0
  have e0 : w2.heap[b0]? = some (.cells #[v] 191 (0, 0)) := (hk b0 hb0 (fun e => (h.dv b0 e.symm).2 rfl)).trans h.blk
  have hne : ∀ k, v'.ownBlock = some k → k ≠ b0 := fun k hv e => by
    subst e
    rcases hg k hv with e | e
    · exact (h.dv k e).2 rfl
    · omega
  have hkp : Keep D w w2 := (keep_app hb hk).mono (fun k _ hv => (h.dv k hv).1)
  have hks : Keep D w (w2.setCell ⟨b0, 0, none⟩ v') := hkp.setCell (p := ⟨b0, 0, none⟩) (Or.inl h.d0) v'
  have hk2 : Keep (fun k => k = b0) w2 (w2.setCell ⟨b0, 0, none⟩ v') := Keep.setCell (S := fun k => k = b0) (Keep.refl _ _) (p := ⟨b0, 0, none⟩) (Or.inl rfl) _
  refine ⟨by simp [World.cell?, e0], by simp [World.frozen?, e0], ⟨by simpa using heap_setCell_same w2 b0 0 _ _ v' e0, own_keepS hk2 hown hne, Or.inl h.d0, fun k hv => ⟨Or.inr hv, hne k hv⟩, fun k hk => ?_⟩, ⟨hks, fun k hd => Or.inl hd, fun k hd => ?_⟩⟩
  · rcases hk with hk | hk
    · exact Nat.lt_of_lt_of_le (h.lt k hk) hks.size
    · exact Nat.lt_of_lt_of_le (hown.lt k hk).2 hk2.size
  · rcases hd with hd | hd
    · exact Or.inl hd
    · rcases hg k hd with e | e
      · exact Or.inl (h.dv k e).1
      · exact Or.inr e
/-- The same, where some memory was made ahead of it. -/
theorem WrR.app1 {D : Nat → Prop} {w wx w2 : World} {b0 g n cap : Nat} {v : Value} {ws : List Int} {c : Int} (h : WrR w D b0 v ws) (hx : Below w.heap.size w wx) (hn : n = ws.length + 1) (hown : w2.ownsRow 0 5 1 (.slice (some ⟨g, 0, none⟩) n cap) n (u8s ws ++ [.int .u8 c])) (hb : Below 0 wx w2)
    (hg : v.ownBlock = some g ∨ wx.heap.size ≤ g) (hk : ∀ k, k < wx.heap.size → some k ≠ v.ownBlock → w2.heap[k]? = wx.heap[k]?) :
    w2.cell? ⟨b0, 0, none⟩ = some v ∧ w2.frozen? ⟨b0, 0, none⟩ = false ∧ WrR (w2.setCell ⟨b0, 0, none⟩ (.slice (some ⟨g, 0, none⟩) n cap)) (fun k => D k ∨ k = g) b0 (.slice (some ⟨g, 0, none⟩) n cap) (ws ++ [c]) ∧ Moved D (fun k => D k ∨ k = g) w (w2.setCell ⟨b0, 0, none⟩ (.slice (some ⟨g, 0, none⟩) n cap)) := by
  subst hn
  have hz := hx.size
  obtain ⟨h1, h2, h3, h4⟩ := h.app (zs := ws ++ [c]) (v' := .slice (some ⟨g, 0, none⟩) (ws.length + 1) cap) (by simpa [u8s] using hown) ((hx.mono (Nat.zero_le _)).trans hb) (fun g' hg' => by cases hg'; rcases hg with e | e; exact Or.inl e; exact Or.inr (Nat.le_trans hz e))
    (fun k hk' hne => (hk k (by omega) hne).trans (hx.block k hk'))
  have e : (fun k => D k ∨ (Value.slice (some ⟨g, 0, none⟩) (ws.length + 1) cap).ownBlock = some k) = fun k => D k ∨ k = g := by
    funext k
    simp [Value.ownBlock, eq_comm]
  rw [e] at h3 h4
  exact ⟨h1, h2, h3, h4⟩
theorem new_writer (w : World) : Calls Tryz.prog 80 #[] w fun e w' => e = .returned (.pointer (some ⟨w.heap.size, 0, none⟩)) ∧ WrR w' (fun k => k = w.heap.size) w.heap.size (.slice none 0 0) [] ∧ Below w.heap.size w w' := by
  go_enter Tryz.func80, Tryz.ntmps80
  go_wp2
  go_ret
  exact ⟨rfl, ⟨heap_alloc_new w _, World.ownsRow_nil _ _ _ _, rfl, (by intro k hk; cases hk), (by intro k hk; simp; omega)⟩, (Below.refl _ _).alloc (Nat.le_refl _) _⟩
theorem shr_u8 {x : Int} (m : Nat) : IntKind.u8.wrap (x / 2 ^ (8 * m)) = x / 256 ^ m % 256 := by
  have hp : (2 : Int) ^ (8 * m) = 256 ^ m := by rw [Int.pow_mul]; rfl
  rw [hp]
  simp [IntKind.wrap, IntKind.signed, IntKind.bits]
set_option maxHeartbeats 1000000 in
theorem uint_any {D : Nat → Prop} {w : World} {b0 : Nat} {v : Value} {ws : List Int} (h : WrR w D b0 v ws) {x : Int} (hx : U1 x) (hl : ws.length ≤ 1000000000) :
    Calls Tryz.prog 82 #[.pointer (some ⟨b0, 0, none⟩), .int .u64 x] w fun e w' => e = .returned (.tuple #[]) ∧ ∃ D' v', WrR w' D' b0 v' (ws ++ putU x) ∧ Moved D D' w w' := by
  have H := Lib.hid h
  obtain ⟨i0, hi, hz0, hz1, hz2⟩ := info_parts Tryz.byteInfo
  obtain ⟨c0, z0⟩ := h.cell
  have hs8 := sz_le x
  have HSz := Lib.hid (size_any hx w)
  have h1l : ws.length ≤ 1099511627776 := by omega
  clear h hx
  go_enter Tryz.func82, Tryz.ntmps82
  go_wp2_with fail
  refine HSz.out.mono ?_
  rintro e w' ⟨rfl, rfl⟩
  obtain ⟨n, hn⟩ : ∃ n, sz x = n := ⟨_, rfl⟩
  rw [hn] at hs8 ⊢
  have HN := Lib.hid hn
  clear hn HSz
  have hw8 : IntKind.u8.wrap (n : Int) = n := by simp [IntKind.wrap, IntKind.signed, IntKind.bits]; omega
  go_wp2_with (at_builtin; (refine wpList_app1 rfl (.tmp 13) (.tmp 16) 27 rfl 0 5 i0 (.int .u8 0) 1 Tryz.underlying27 hi hz0 hz1 hz2 rfl (by decide) rfl rfl H.out.own rfl h1l (Nat.zero_le _) ?_)
               intro g cap w2 hown hb2 hg2 hk2
               have HA := Lib.hid (H.out.app (zs := ws ++ [(n : Int)]) (v' := .slice (some ⟨g, 0, none⟩) (ws.length + 1) cap) (by simpa [u8s] using hown) hb2 (by intro g' hg'; cases hg'; exact hg2) hk2)
               obtain ⟨c0, z0, _⟩ := HA.out
               clear hown hb2 hg2 hk2)
  obtain ⟨_, _, hr, hm⟩ := HA.out
  have HR := Lib.hid hr
  have HM := Lib.hid hm
  clear hr hm HA c0 z0
  go_loopw [4] (fun i wr => ∃ (m : Nat) (acc : List Int) (D' : Nat → Prop) (v' : Value), m ≤ n ∧ i = .int .i64 m ∧ acc ++ be m x = ws ++ putU x ∧ acc.length + m ≤ ws.length + 1 + n ∧ WrR wr D' b0 v' acc ∧ Moved D D' w wr) (fun i _ => (intOf i).toNat)
  case atStart => exact ⟨n, _, _, _, Nat.le_refl _, rfl, by unfold putU; rw [HN.out]; simp, by simp, HR.out, HM.out⟩
  case round =>
    clear HR HM
    obtain ⟨m, acc, D', v', hm, rfl, hacc, hal, hr, hmv⟩ := hrel
    have HAcc := Lib.hid hacc
    have HR := Lib.hid hr
    have HM := Lib.hid hmv
    obtain ⟨c0, z0⟩ := hr.cell
    clear hacc hr hmv
    cases m with
    | zero =>
      have hd : decide ((0 : Int) < ((0 : Nat) : Int)) = false := by simp
      go_wp2_with fail
      go_end0
      have ha := HAcc.out
      simp only [be, List.append_nil] at ha
      exact ⟨rfl, D', v', by rw [← ha]; exact HR.out, HM.out⟩
    | succ m =>
      have hd : (0 : Int) < ((m + 1 : Nat) : Int) := by omega
      have hmi : ((m + 1 : Nat) : Int) - 1 = (m : Int) := by omega
      have h8 := shr_u8 (x := x) m
      have hm8 : m < 8 := by omega
      have hacl : acc.length ≤ 1099511627776 := by omega
      have hw8m : IntKind.i64.wrap (8 * (m : Int)) = 8 * (m : Int) := IntWalk.i64_in _ (by omega)
      have hw8t : (8 * (m : Int)).toNat = 8 * m := by omega
      have hw80 : 0 ≤ 8 * (m : Int) := by omega
      have hca : ∀ o, (wr.alloc o).cell? ⟨b0, 0, none⟩ = some v' := fun o => cell_alloc o c0
      have hcd : ∀ o, (wr.drew.alloc o).cell? ⟨b0, 0, none⟩ = some v' := fun o => cell_alloc (w := wr.drew) o c0
      go_wp2_with fail
      go_region_law ((
         refine step_appS rfl (.tmp 28) (.tmp 34) 27 rfl 0 5 i0 (.int .u8 0) 1 1 Tryz.underlying27 hi hz0 hz1 hz2 rfl (by decide) (by decide) rfl rfl (heap_alloc_new _ _) rfl (HR.out.own.drew.alloc _) (by intro u hu; simp at hu; subst hu; rfl) hacl (Nat.zero_le _) ?_
         intro g3 cap3 w3 hown3 hb3 hg3 hk3
         have HA3 := Lib.hid (HR.out.app1 ((Below.refl _ _).alloc (Nat.le_refl _) _).drew rfl hown3 hb3 hg3 hk3)
         obtain ⟨c0, z0, _⟩ := HA3.out
         clear hown3 hb3 hg3 hk3))
      all_goals
        obtain ⟨_, _, hr3, hm3⟩ := HA3.out
        have HR3 := Lib.hid hr3
        have HM3 := Lib.hid hm3
        clear hr3 hm3 HA3 c0 z0 hca hcd
        go_wp2_with fail
        go_roundw
        case rel => exact ⟨m, _, _, _, by omega, rfl, by rw [← HAcc.out]; simp [be], by simp; omega, HR3.out, HM.out.trans HM3.out⟩
        case measure => simp [intOf]
set_option maxHeartbeats 1000000 in
theorem wraw_any {D : Nat → Prop} {w : World} {b0 : Nat} {v sv : Value} {ws xs : List Int} (h : WrR w D b0 v ws) (hs : SlR w sv (u8s xs)) (hl : ws.length + xs.length ≤ 1000000000) :
    Calls Tryz.prog 81 #[.pointer (some ⟨b0, 0, none⟩), sv] w fun e w' => e = .returned (.tuple #[]) ∧ ∃ D' v', WrR w' D' b0 v' (ws ++ xs) ∧ Moved D D' w w' := by
  obtain ⟨ao, c, rfl, hc1, hc2⟩ := hs.form
  simp only [List.length_map] at hs hc1 ⊢
  have H := Lib.hid h
  have HS := Lib.hid hs
  obtain ⟨i0, hi, hz0, hz1, hz2⟩ := info_parts Tryz.byteInfo
  obtain ⟨c0, z0⟩ := h.cell
  have h1l : ws.length + (u8s xs).length ≤ 1099511627776 := by simp; omega
  clear h hs
  go_enter Tryz.func81, Tryz.ntmps81
  go_wp2_with (at_builtin; (refine wpList_appSrc rfl (.tmp 10) (.tmp 11) 27 rfl 0 5 i0 (.int .u8 0) 1 Tryz.underlying27 hi hz0 hz1 hz2 rfl (by decide) rfl rfl H.out.own HS.out (u8s_one xs) h1l (Nat.zero_le _) ?_)
               intro v2 w2 hown hb2 hg2 hk2 _
               obtain ⟨vo, vc, rfl, _, _⟩ := own_form hown
               have HA := Lib.hid (H.out.app (zs := ws ++ xs) (v' := .slice vo (ws.length + (u8s xs).length) vc) (by simpa [u8s] using hown) hb2 hg2 hk2)
               obtain ⟨c0, z0, _⟩ := HA.out
               clear hown hb2 hg2 hk2)
  go_end0
  obtain ⟨_, _, hr, hm⟩ := HA.out
  simp only [List.length_map] at hr hm
  exact ⟨rfl, _, _, hr, hm⟩
theorem wbytes_any {D : Nat → Prop} {w : World} {b0 : Nat} {v sv : Value} {ws xs : List Int} (h : WrR w D b0 v ws) (hs : SlR w sv (u8s xs)) (ho : u8s xs ≠ [] → ∀ k, sv.ownBlock = some k → ¬ D k) (hl : ws.length + 9 + xs.length ≤ 1000000000) :
    Calls Tryz.prog 83 #[.pointer (some ⟨b0, 0, none⟩), sv] w fun e w' => e = .returned (.tuple #[]) ∧ ∃ D' v', WrR w' D' b0 v' (ws ++ putB xs) ∧ Moved D D' w w' := by
  obtain ⟨ao, c, rfl, hc1, hc2⟩ := hs.form
  simp only [List.length_map] at hs hc1 ⊢
  have hU := Lib.hid (uint_any h (x := (xs.length : Int)) (by constructor <;> omega) (by omega))
  have HS := Lib.hid hs
  have HO := Lib.hid ho
  have hwl : IntKind.u64.wrap (xs.length : Int) = (xs.length : Int) := IntWalk.u64_in _ (by omega)
  have hpl := putU_len (xs.length : Int)
  have hsl := sz_le (xs.length : Int)
  have HP := Lib.hid hpl
  clear h hs hpl ho
  go_enter Tryz.func83, Tryz.ntmps83
  go_wp2_with fail
  refine hU.out.mono ?_
  rintro e w1 ⟨rfl, D1, v1, hr1, hm1⟩
  have HR1 := Lib.hid hr1
  have HM1 := Lib.hid hm1
  have hs1 := HS.out.keepE hm1.keep (fun hne k hk => HO.out hne k (by simpa using hk))
  have HS1 := Lib.hid hs1
  clear hr1 hm1 hs1 hwl
  go_wp2_with fail
  refine (wraw_any HR1.out HS1.out (by rw [List.length_append, HP.out]; omega)).mono ?_
  rintro e w2 ⟨rfl, D2, v2, hr2, hm2⟩
  go_wp2_with fail
  go_end0
  exact ⟨rfl, D2, v2, by unfold putB; rw [← List.append_assoc]; exact hr2, HM1.out.trans hm2⟩
theorem wout_any {D : Nat → Prop} {w : World} {b0 : Nat} {v : Value} {ws : List Int} (h : WrR w D b0 v ws) (hl : ws.length ≤ 1000000000) :
    Calls Tryz.prog 85 #[.pointer (some ⟨b0, 0, none⟩)] w fun e w' => ∃ v', e = .returned v' ∧ w'.ownsRow w.heap.size 5 1 v' ws.length (u8s ws) ∧ Below w.heap.size w w' := by
  have HC := Lib.hid (cloneB_any (SlR.of_own h.own) hl)
  obtain ⟨c0, z0⟩ := h.cell
  clear h
  go_enter Tryz.func85, Tryz.ntmps85
  go_wp2_with fail
  refine HC.out.mono ?_
  rintro e w1 ⟨v1, rfl, ho, hb⟩
  go_wp2_with fail
  go_ret
  exact ⟨v1, rfl, ho, hb⟩

/-- A writer at p, all of whose blocks are of D. -/
def WrO (p : Value) (D : Nat → Prop) (w : World) (ws : List Int) : Prop := ∃ b0 v, p = .pointer (some ⟨b0, 0, none⟩) ∧ WrR w D b0 v ws
def obWr (p : Value) (D : Nat → Prop) (ws : List Int) : Ob := ⟨D, fun w => WrO p D w ws⟩
theorem obWr_good (p : Value) (D : Nat → Prop) (ws : List Int) : (obWr p D ws).Good :=
  ⟨fun ⟨b0, v, e, h⟩ hk hs => ⟨b0, v, e, h.keep hk hs⟩, fun ⟨_, _, _, h⟩ k hk => h.lt k hk⟩
section
variable {W w : World} {os : List Ob} {p : Value} {D : Nat → Prop} {ws : List Int}
theorem SepW.wrNew (h : SepW W w os) : Calls Tryz.prog 80 #[] w fun e w' => ∃ b0 D, e = .returned (.pointer (some ⟨b0, 0, none⟩)) ∧ SepW W w' (obWr (.pointer (some ⟨b0, 0, none⟩)) D [] :: os) :=
  (new_writer w).mono fun e w' ⟨h1, h2, h3⟩ => ⟨_, _, h1, h.new h3 (obWr_good ..) ⟨_, _, rfl, h2⟩ (fun k hk => by rw [show k = w.heap.size from hk]; exact Nat.le_refl _)⟩
theorem SepW.wrUint (h : SepW W w os) (i : Nat) (hi : os[i]? = some (obWr p D ws)) {x : Int} (hx : U1 x) (hl : ws.length ≤ 1000000000) :
    Calls Tryz.prog 82 #[p, .int .u64 x] w fun e w' => e = .returned (.tuple #[]) ∧ ∃ D', SepW W w' (os.set i (obWr p D' (ws ++ putU x))) := by
  obtain ⟨b0, v, rfl, hr⟩ := (h.get i hi : WrO p D w ws)
  exact (uint_any hr hx hl).mono fun e w' ⟨h1, D', v', h2, h3⟩ => ⟨h1, D', h.set i hi h3.keep (obWr_good ..) ⟨b0, v', rfl, h2⟩ h3.new⟩
theorem SepW.wrRaw (h : SepW W w os) (i : Nat) (hi : os[i]? = some (obWr p D ws)) {sv : Value} {xs : List Int} (hs : SlR w sv (u8s xs)) (hl : ws.length + xs.length ≤ 1000000000) :
    Calls Tryz.prog 81 #[p, sv] w fun e w' => e = .returned (.tuple #[]) ∧ ∃ D', SepW W w' (os.set i (obWr p D' (ws ++ xs))) := by
  obtain ⟨b0, v, rfl, hr⟩ := (h.get i hi : WrO p D w ws)
  exact (wraw_any hr hs hl).mono fun e w' ⟨h1, D', v', h2, h3⟩ => ⟨h1, D', h.set i hi h3.keep (obWr_good ..) ⟨b0, v', rfl, h2⟩ h3.new⟩
theorem SepW.wrBytes (h : SepW W w os) (i : Nat) (hi : os[i]? = some (obWr p D ws)) {sv : Value} {xs : List Int} (hs : SlR w sv (u8s xs)) (ho : u8s xs ≠ [] → ∀ k, sv.ownBlock = some k → ¬ D k) (hl : ws.length + 9 + xs.length ≤ 1000000000) :
    Calls Tryz.prog 83 #[p, sv] w fun e w' => e = .returned (.tuple #[]) ∧ ∃ D', SepW W w' (os.set i (obWr p D' (ws ++ putB xs))) := by
  obtain ⟨b0, v, rfl, hr⟩ := (h.get i hi : WrO p D w ws)
  exact (wbytes_any hr hs ho hl).mono fun e w' ⟨h1, D', v', h2, h3⟩ => ⟨h1, D', h.set i hi h3.keep (obWr_good ..) ⟨b0, v', rfl, h2⟩ h3.new⟩
theorem SepW.wrOut (h : SepW W w os) (i : Nat) (hi : os[i]? = some (obWr p D ws)) (hl : ws.length ≤ 1000000000) :
    Calls Tryz.prog 85 #[p] w fun e w' => ∃ v', e = .returned v' ∧ w'.ownsRow w.heap.size 5 1 v' ws.length (u8s ws) ∧ Below w.heap.size w w' := by
  obtain ⟨b0, v, rfl, hr⟩ := (h.get i hi : WrO p D w ws)
  exact wout_any hr hl
end
end Go.Proofs.YtgmdedkingampaaGreat
