/-
  Package nums: a reader's other methods; a reader among other things of the call's own.
-/
import Derived.Test.YtdmfladjhjpafaaNumR
import Derived.Test.YtdmfladjhjpafaaClo
namespace Go.Proofs.Ytdmfladjhjpafaa
open Go.ChangeShapes Go.WideShapes Go.ChangeAt Go.RowKit Go.Maps
set_option maxRecDepth 100000

/-- What 'Raw' and 'Bytes' come to. -/
def RetB (D : Nat → Prop) (b0 : Nat) (q : RS × List Int) (w : World) (e : Ending) (w' : World) : Prop :=
  ∃ ao c v', e = .returned (.slice ao q.2.length c) ∧ w'.ownsRow w.heap.size 5 1 (.slice ao q.2.length c) q.2.length (u8s q.2) ∧ RdR w' D b0 v' q.1 ∧ Keep (fun k => k = b0) w w'
set_option maxHeartbeats 1000000 in
theorem rraw_any {D : Nat → Prop} {w : World} {b0 : Nat} {v : Value} {r : RS} (h : RdR w D b0 v r) {n : Int} (hn : n ≤ 1000000000) :
    Calls Try.prog 41 #[.pointer (some ⟨b0, 0, none⟩), .int .i64 n] w (RetB D b0 (rRaw n r) w) := by
  have H := Lib.hid h
  by_cases h0 : n < 0
  · have hR : rRaw n r = (rFail 1 r, []) := by simp [rRaw, h0]
    rw [hR]
    clear h hR
    go_enter Try.func41, Try.ntmps41
    go_wp2_with fail
    refine (fail_any H.out 1).mono ?_
    rintro e w1 ⟨rfl, h1, hk1⟩
    go_wp2_with fail
    go_ret
    exact ⟨none, 0, v, rfl, World.ownsRow_nil _ _ _ _, h1, hk1⟩
  · obtain ⟨m, rfl⟩ := Int.eq_ofNat_of_zero_le (show 0 ≤ n by omega)
    have hR : rRaw (m : Int) r = rTake m r := by simp [rRaw]; omega
    rw [hR]
    have HT := Lib.hid (take_any h m (by omega))
    have hb8 := rTake_b (n := m) h.u8 h.few
    have hd0 : decide ((m : Int) < 0) = false := decide_eq_false (by omega)
    unfold RetTk at HT
    generalize rTake m r = q at *
    obtain ⟨r1, l⟩ := q
    simp only at hb8
    clear h hR h0
    go_enter Try.func41, Try.ntmps41
    go_wp2_with fail
    refine HT.out.mono ?_
    rintro e w1 ⟨v1, ao, c, rfl, h1, hs1, hk1⟩
    have HC := Lib.hid (cloneB_any hs1 hb8.2.2.2)
    have H1 := Lib.hid h1
    have HK1 := Lib.hid hk1
    clear h1 hk1 hs1 HT
    go_wp2_with fail
    refine HC.out.mono ?_
    rintro e w2 ⟨v2, rfl, ho, hb⟩
    obtain ⟨ko, kc, rfl, _, _⟩ := own_form ho
    have HO := Lib.hid ho
    have HB := Lib.hid hb
    clear ho hb
    go_wp2_with fail
    go_ret
    exact ⟨ko, kc, v1, rfl, HO.out.weaken HK1.out.size, H1.out.step HB.out, HK1.out.trans (Below.keep0 _ HB.out)⟩
theorem rerr_any {D : Nat → Prop} {w : World} {b0 : Nat} {v : Value} {r : RS} (h : RdR w D b0 v r) :
    Calls Try.prog 40 #[.pointer (some ⟨b0, 0, none⟩)] w fun e w' => e = .returned (.int .i64 r.e) ∧ w = w' := by
  obtain ⟨c0, c1, z0, z1⟩ := h.cell
  clear h
  go_enter Try.func40, Try.ntmps40
  go_wp2
  go_ret
  exact ⟨rfl, rfl⟩
theorem rend_any {D : Nat → Prop} {w : World} {b0 : Nat} {v : Value} {r : RS} (h : RdR w D b0 v r) :
    Calls Try.prog 33 #[.pointer (some ⟨b0, 0, none⟩)] w fun e w' => e = .returned (.int .i64 (rEnd r)) ∧ w = w' := by
  obtain ⟨ao, c, rfl, hc1, hc2⟩ := h.sl.form
  have hlen : (u8s r.b).length = r.b.length := by simp
  rw [hlen] at h hc1
  clear hlen
  obtain ⟨c0, c1, z0, z1⟩ := h.cell
  have HE := Lib.hid (rerr_any h)
  unfold rEnd
  by_cases he : r.e = 0
  · have hb : (r.e != 0) = false := by simp [he]
    rw [if_neg (by simp [he])]
    by_cases hl : r.b.length = 0
    · rw [if_neg (by omega)]
      have hd : decide ((0 : Int) < (r.b.length : Int)) = false := decide_eq_false (by omega)
      have hd2 : decide (0 < r.b.length) = false := decide_eq_false (by omega)
      clear h he hl
      go_enter Try.func33, Try.ntmps33
      go_wp2_with fail
      refine HE.out.mono ?_
      rintro e w1 ⟨rfl, rfl⟩
      go_wp2_with fail
      go_ret
      exact ⟨rfl, rfl⟩
    · rw [if_pos (by omega)]
      have hd : decide ((0 : Int) < (r.b.length : Int)) = true := decide_eq_true (by omega)
      have hd2 : 0 < r.b.length := by omega
      clear h he hl
      go_enter Try.func33, Try.ntmps33
      go_wp2_with fail
      refine HE.out.mono ?_
      rintro e w1 ⟨rfl, rfl⟩
      go_wp2_with fail
      go_ret
      exact ⟨rfl, rfl⟩
  · have hb : (r.e != 0) = true := by simp [he]
    rw [if_pos he]
    clear h he
    go_enter Try.func33, Try.ntmps33
    go_wp2_with fail
    refine HE.out.mono ?_
    rintro e w1 ⟨rfl, rfl⟩
    go_wp2_with fail
    go_ret
    exact ⟨rfl, rfl⟩
theorem new_reader {sv : Value} {xs : List Int} {w : World} (h : SlR w sv (u8s xs)) (h8 : U8 xs) (hl : xs.length ≤ 1000000000) : Calls Try.prog 30 #[sv] w fun e w' =>
    ∃ b0 v, e = .returned (.pointer (some ⟨b0, 0, none⟩)) ∧ RdR w' (fun k => w.heap.size ≤ k ∧ k < w'.heap.size) b0 v ⟨xs, 0⟩ ∧ Below w.heap.size w w' := by
  have HC := Lib.hid (cloneB_any h hl)
  clear h
  go_enter Try.func30, Try.ntmps30
  go_wp2_with fail
  refine HC.out.mono ?_
  rintro e w1 ⟨v1, rfl, ho, hb⟩
  obtain ⟨ko, kc, rfl, _, _⟩ := own_form ho
  have HO := Lib.hid ho
  have HB := Lib.hid hb
  have hsz := hb.size
  clear ho hb
  go_wp2_with fail
  go_ret
  refine ⟨w1.heap.size, _, rfl, ⟨heap_alloc_new w1 _, (SlR.of_own HO.out).below ((Below.refl _ _).alloc (Nat.le_refl _) _) (Nat.le_refl _), ⟨hsz, by simp⟩, fun k hk => ?_, fun k hk => hk.2, h8, hl⟩, HB.out.alloc hsz _⟩
  have := HO.out.lt k hk
  exact ⟨⟨this.1, by simp; omega⟩, by omega⟩
set_option maxHeartbeats 1000000 in
theorem rbytes_any {D : Nat → Prop} {w : World} {b0 : Nat} {v : Value} {r : RS} (h : RdR w D b0 v r) {most : Nat} (hm : most ≤ 1000000000) :
    Calls Try.prog 32 #[.pointer (some ⟨b0, 0, none⟩), .int .i64 most] w (RetB D b0 (rB most r) w) := by
  have HU := Lib.hid (ruint_any h)
  obtain ⟨hx0, hx1⟩ := rU_bd h.u8 h.few
  unfold RetU at HU
  have hR : rB most r = if (rU r).1.e ≠ 0 then ((rU r).1, []) else if (rU r).2 > most then (rFail 13 (rU r).1, []) else rTake (rU r).2.toNat (rU r).1 := rfl
  generalize rB most r = res at *
  generalize rU r = q at *
  obtain ⟨r1, x⟩ := q
  simp only at hR hx0 hx1
  have hwm : IntKind.u64.wrap (most : Int) = (most : Int) := IntWalk.u64_in _ (by omega)
  have hm0 : decide ((most : Int) < 0) = false := decide_eq_false (by omega)
  clear h
  by_cases he : r1.e = 0
  · have hb : (r1.e != 0) = false := by simp [he]
    rw [if_neg (by simp [he])] at hR
    by_cases hgt : x > most
    · rw [if_pos hgt] at hR
      have hgd : decide ((most : Int) < x) = true := decide_eq_true hgt
      have HR := Lib.hid hR
      clear hR he
      go_enter Try.func32, Try.ntmps32
      go_wp2_with fail
      refine HU.out.mono ?_
      rintro e w1 ⟨rfl, v1, h1, hk1⟩
      have H1 := Lib.hid h1
      have HK1 := Lib.hid hk1
      clear h1 hk1 HU
      go_wp2_with fail
      refine (rerr_any H1.out).mono ?_
      rintro e w1' ⟨rfl, rfl⟩
      go_wp2_with fail
      refine (fail_any H1.out 13).mono ?_
      rintro e w2 ⟨rfl, h2, hk2⟩
      go_wp2_with fail
      go_ret
      rw [HR.out]
      exact ⟨none, 0, v1, rfl, World.ownsRow_nil _ _ _ _, h2, HK1.out.trans hk2⟩
    · rw [if_neg hgt] at hR
      have hgd : decide ((most : Int) < x) = false := decide_eq_false hgt
      have hwx : IntKind.i64.wrap x = x := IntWalk.i64_in _ (by omega)
      have hR2 : res = rRaw x r1 := by rw [hR]; unfold rRaw; rw [if_neg (by omega)]
      have HR := Lib.hid hR2
      clear hR hR2 he
      go_enter Try.func32, Try.ntmps32
      go_wp2_with fail
      refine HU.out.mono ?_
      rintro e w1 ⟨rfl, v1, h1, hk1⟩
      have H1 := Lib.hid h1
      have HK1 := Lib.hid hk1
      clear h1 hk1 HU
      go_wp2_with fail
      refine (rerr_any H1.out).mono ?_
      rintro e w1' ⟨rfl, rfl⟩
      go_wp2_with fail
      refine (rraw_any H1.out (by omega)).mono ?_
      rintro e w2 ⟨ao, c, v2, rfl, ho, h2, hk2⟩
      rw [← HR.out] at ho h2 ⊢
      have HO := Lib.hid ho
      have H2 := Lib.hid h2
      have HK2 := Lib.hid hk2
      clear ho h2 hk2
      go_wp2_with fail
      go_ret
      exact ⟨ao, c, v2, rfl, HO.out.weaken HK1.out.size, H2.out, HK1.out.trans HK2.out⟩
  · have hb : (r1.e != 0) = true := by simp [he]
    rw [if_pos he] at hR
    have HR := Lib.hid hR
    clear hR he
    go_enter Try.func32, Try.ntmps32
    go_wp2_with fail
    refine HU.out.mono ?_
    rintro e w1 ⟨rfl, v1, h1, hk1⟩
    have H1 := Lib.hid h1
    have HK1 := Lib.hid hk1
    clear h1 hk1 HU
    go_wp2_with fail
    refine (rerr_any H1.out).mono ?_
    rintro e w1' ⟨rfl, rfl⟩
    go_wp2_with fail
    go_ret
    rw [HR.out]
    exact ⟨none, 0, v1, rfl, World.ownsRow_nil _ _ _ _, H1.out, HK1.out⟩

/-- A reader at p, all of whose blocks are of D. -/
def RdO (p : Value) (D : Nat → Prop) (w : World) (r : RS) : Prop := ∃ b0 v, p = .pointer (some ⟨b0, 0, none⟩) ∧ RdR w D b0 v r
def obRd (p : Value) (D : Nat → Prop) (r : RS) : Ob := ⟨D, fun w => RdO p D w r⟩
theorem obRd_good (p : Value) (D : Nat → Prop) (r : RS) : (obRd p D r).Good :=
  ⟨fun ⟨b0, v, e, h⟩ hk hs => ⟨b0, v, e, h.keep hk hs⟩, fun ⟨_, _, _, h⟩ k hk => h.lt k hk⟩
/-- One new row. -/
theorem Sep.row {B : Nat} {w : World} {v : Value} {e : TypeId} {n : Nat} {xs : List Value} (h : w.ownsRow B e 1 v n xs) (hB : B ≤ w.heap.size) : Sep B w [obRow v e 1 n xs] := by
  refine ⟨fun o ho => ?_, fun o ho => ?_, fun o ho k hk => ?_, List.pairwise_singleton _ _, hB⟩
  · rw [List.mem_singleton.1 ho]; exact obRow_good ..
  · rw [List.mem_singleton.1 ho]; exact h.weaken (Nat.zero_le _)
  · rw [List.mem_singleton.1 ho] at hk; exact (h.lt k hk).1
section
variable {W w : World} {os : List Ob} {p : Value} {D : Nat → Prop} {r : RS}
theorem SepW.rdNew (h : SepW W w os) {sv : Value} {xs : List Int} (hs : SlR w sv (u8s xs)) (h8 : U8 xs) (hl : xs.length ≤ 1000000000) : Calls Try.prog 30 #[sv] w fun e w' => ∃ b0 D, e = .returned (.pointer (some ⟨b0, 0, none⟩)) ∧ SepW W w' (obRd (.pointer (some ⟨b0, 0, none⟩)) D ⟨xs, 0⟩ :: os) :=
  (new_reader hs h8 hl).mono fun e w' ⟨b0, v, h1, h2, h3⟩ => ⟨_, _, h1, h.new h3 (obRd_good ..) ⟨b0, v, rfl, h2⟩ (fun k hk => hk.1)⟩
theorem SepW.rdUint (h : SepW W w os) (i : Nat) (hi : os[i]? = some (obRd p D r)) :
    Calls Try.prog 31 #[p] w fun e w' => e = .returned (.int .u64 (rU r).2) ∧ SepW W w' (os.set i (obRd p D (rU r).1)) := by
  obtain ⟨b0, v, rfl, hr⟩ := (h.get i hi : RdO p D w r)
  exact (ruint_any hr).mono fun e w' ⟨h1, v', h2, h3⟩ => ⟨h1, h.set i hi (h3.mono (fun k _ e => by subst e; exact hr.d0)) (obRd_good ..) ⟨b0, v', rfl, h2⟩ (fun k hk => Or.inl hk)⟩
theorem SepW.rdErr (h : SepW W w os) (i : Nat) (hi : os[i]? = some (obRd p D r)) : Calls Try.prog 40 #[p] w fun e w' => e = .returned (.int .i64 r.e) ∧ w = w' := by
  obtain ⟨b0, v, rfl, hr⟩ := (h.get i hi : RdO p D w r)
  exact rerr_any hr
theorem SepW.rdEnd (h : SepW W w os) (i : Nat) (hi : os[i]? = some (obRd p D r)) : Calls Try.prog 33 #[p] w fun e w' => e = .returned (.int .i64 (rEnd r)) ∧ w = w' := by
  obtain ⟨b0, v, rfl, hr⟩ := (h.get i hi : RdO p D w r)
  exact rend_any hr
theorem SepW.rdRaw (h : SepW W w os) (i : Nat) (hi : os[i]? = some (obRd p D r)) {n : Int} (hn : n ≤ 1000000000) :
    Calls Try.prog 41 #[p, .int .i64 n] w fun e w' => ∃ ao c, e = .returned (.slice ao (rRaw n r).2.length c) ∧ SepW W w' (obRow (.slice ao (rRaw n r).2.length c) 5 1 (rRaw n r).2.length (u8s (rRaw n r).2) :: os.set i (obRd p D (rRaw n r).1)) := by
  obtain ⟨b0, v, rfl, hr⟩ := (h.get i hi : RdO p D w r)
  exact (rraw_any hr hn).mono fun e w' ⟨ao, c, v', h1, h2, h3, h4⟩ => ⟨ao, c, h1, h.setNew i hi (h4.mono (fun k _ e => by subst e; exact hr.d0)) (obRd_good ..) ⟨b0, v', rfl, h3⟩ (fun k hk => hk) (Sep.row h2 h4.size)⟩
theorem SepW.rdBytes (h : SepW W w os) (i : Nat) (hi : os[i]? = some (obRd p D r)) {most : Nat} (hn : most ≤ 1000000000) :
    Calls Try.prog 32 #[p, .int .i64 most] w fun e w' => ∃ ao c, e = .returned (.slice ao (rB most r).2.length c) ∧ SepW W w' (obRow (.slice ao (rB most r).2.length c) 5 1 (rB most r).2.length (u8s (rB most r).2) :: os.set i (obRd p D (rB most r).1)) := by
  obtain ⟨b0, v, rfl, hr⟩ := (h.get i hi : RdO p D w r)
  exact (rbytes_any hr hn).mono fun e w' ⟨ao, c, v', h1, h2, h3, h4⟩ => ⟨ao, c, h1, h.setNew i hi (h4.mono (fun k _ e => by subst e; exact hr.d0)) (obRd_good ..) ⟨b0, v', rfl, h3⟩ (fun k hk => hk) (Sep.row h2 h4.size)⟩
theorem SepW.rdFacts (h : SepW W w os) (i : Nat) (hi : os[i]? = some (obRd p D r)) : U8 r.b ∧ r.b.length ≤ 1000000000 := by
  obtain ⟨b0, v, rfl, hr⟩ := (h.get i hi : RdO p D w r)
  exact ⟨hr.u8, hr.few⟩
end
end Go.Proofs.Ytdmfladjhjpafaa
