/-
  The library's sort at numbers of 64 bits without sign: few numbers tried in place.
-/
import Derived.Test.YtgmdedkingampaaGreatSrt6
import Derived.Test.YtgmdedkingampaaGreatShX
import Derived.Shelf.SortM.Walk7aIn
import Derived.Sort.Walk7
import Derived.Sort.WalkA6
import Derived.Sort.EveryDepth
set_option linter.unusedVariables false
set_option linter.unusedSimpArgs false
namespace Go.Proofs.YtgmdedkingampaaGreat
open Go.ChangeShapes Go.WideShapes Go.ChangeAt Go.RowKit Go.Sort
set_option maxRecDepth 100000

def BoxX (w : World) (b : Nat) (s : Nat) : Prop := w.heap[b]? = some (.cells #[.int .u64 s] 228 (0, 0))
theorem BoxX.cell {w : World} {b s : Nat} (h : BoxX w b s) : w.cell? ⟨b, 0, none⟩ = some (.int .u64 s) ∧ w.frozen? ⟨b, 0, none⟩ = false := by
  unfold BoxX at h; simp [World.cell?, World.frozen?, h]
theorem BoxX.set {w : World} {b s : Nat} (h : BoxX w b s) (t : Nat) : BoxX (w.setCell ⟨b, 0, none⟩ (.int .u64 t)) b t := by
  unfold BoxX at *; simpa using heap_setCell_same w b 0 _ _ (.int .u64 t) h
theorem BoxX.other {w : World} {b s k i : Nat} {v : Value} (h : BoxX w b s) (hk : k ≠ b) : BoxX (w.setCell ⟨k, i, none⟩ v) b s := by
  unfold BoxX at *; rw [Below.heap_setCell _ _ _ _ (by simpa using fun e => hk e.symm)]; exact h
theorem npow_any (n : Nat) (hn : n < 4611686018427387904) (w : World) : Calls Tryz.prog 156 #[.int .i64 n] w fun e w' => e = .returned (.int .u64 ((1 <<< bitsLen n : Nat) : Int)) ∧ w = w' :=
  (calls_of_every_depth fun D => AnySM.nextPowerOfTwoIn (ρ := Tryz.npowA_ren) Tryz.npowA D n hn w).mono fun _ _ ⟨h1, h2⟩ => ⟨h1, h2.symm⟩
theorem xnext_any (rb X : Nat) (hX : X < 18446744073709551616) (w : World) (hb : BoxX w rb X) : Calls Tryz.prog 157 #[.pointer (some ⟨rb, 0, none⟩)] w fun e w' => e = .returned (.int .u64 (xorNextN X : Nat)) ∧ BoxX w' rb (xorNextN X) ∧ Keep (fun x => x = rb) w w' :=
  (calls_of_every_depth fun D => AnySM.xorshift_NextIn (ρ := Tryz.xorA_ren) Tryz.xorA D rb 0 X hX w hb.cell.1 hb.cell.2).mono fun _ w' ⟨h1, h2⟩ => by
    subst h2
    exact ⟨h1, hb.set _, ((Keep.refl (fun x => x = rb) w).setCell (p := ⟨rb, 0, none⟩) (Or.inl rfl) _).drewN 3⟩
theorem Keep.chainU {S T : Nat → Prop} {a b c : World} (h : Keep S a b) (k : Keep T b c) (hT : ∀ x, T x → S x ∨ a.heap.size ≤ x) : Keep S a c :=
  ⟨k.os.trans h.os, k.tape.trans h.tape, k.output.trans h.output, Nat.le_trans h.size k.size, fun x hx hn => (k.block x (Nat.lt_of_lt_of_le hx h.size) (fun ht => by rcases hT x ht with e | e; exact hn e; omega)).trans (h.block x hx hn)⟩

set_option maxHeartbeats 8000000 in
theorem break_u {w : World} {k : Nat} {d : Array Int} {rest : List Value} (h : RowU w k d rest) (cap a b : Nat) (hab : a + 12 < b) (hb : b ≤ d.size) (hsz : d.size < 1000000000000) :
    Calls Tryz.prog 144 #[.slice (some ⟨k, 0, none⟩) d.size cap, .int .i64 a, .int .i64 b] w fun e w' => e = .returned (.tuple #[]) ∧ RowU w' k (breakPatterns d a b) rest ∧ Keep (fun x => x = k) w w' := by
  have H := Lib.hid h
  have hkw := h.lt
  clear h
  obtain ⟨L, hL⟩ : ∃ L, L = b - a := ⟨_, rfl⟩
  have hli : (b : Int) - (a : Int) = (L : Int) := by omega
  have hw1 : IntKind.i64.wrap ((b : Int) - (a : Int)) = (L : Int) := by rw [hli]; exact IntWalk.i64_in _ (by omega)
  obtain ⟨M, hM⟩ : ∃ M : Nat, M = 1 <<< bitsLen L := ⟨_, rfl⟩
  have hM1 : 1 ≤ M := by rw [hM, Nat.one_shiftLeft]; exact Nat.two_pow_pos _
  have hM2 : M ≤ 2 * L := by rw [hM, Nat.one_shiftLeft]; exact two_pow_bitsLen_le (by omega)
  obtain ⟨q, hq⟩ : ∃ q, q = L / 4 := ⟨_, rfl⟩
  have ht : (L : Int).tdiv 4 = (q : Int) := by rw [hq, Int.tdiv_eq_ediv_of_nonneg (by omega)]; rfl
  have ht2 : (L : Int) / 4 = (q : Int) := by rw [hq]; rfl
  have hq2 : IntKind.i64.wrap ((q : Int) * 2) = (q : Int) * 2 := IntWalk.i64_in _ (by omega)
  have hq3 : IntKind.i64.wrap ((a : Int) + (q : Int) * 2) = (a : Int) + (q : Int) * 2 := IntWalk.i64_in _ (by omega)
  have hq4 : IntKind.i64.wrap ((a : Int) + (q : Int) * 2 - 1) = (a : Int) + (q : Int) * 2 - 1 := IntWalk.i64_in _ (by omega)
  have hq5 : IntKind.i64.wrap ((a : Int) + (q : Int) * 2 + 1) = (a : Int) + (q : Int) * 2 + 1 := IntWalk.i64_in _ (by omega)
  have hLu : IntKind.u64.wrap (L : Int) = (L : Int) := IntWalk.u64_in _ (by omega)
  have hMu : IntKind.u64.wrap ((M : Int) - 1) = (M : Int) - 1 := IntWalk.u64_in _ (by omega)
  have hl8 : (8 : Int) ≤ (L : Int) := by omega
  have hbp : breakPatterns d a b = bpRest a L M (a + q * 2 - 1) 3 0 (UInt64.ofNat L, d) := by
    rw [show b = a + L by omega, breakPatterns_eq d a L (by omega), ← hM, ← hq]
  have HNP := Lib.hid (fun w => npow_any L (by omega) w)
  rw [← hM] at HNP
  have HBP := Lib.hid hbp
  have HL := Lib.hid hL
  have hA := (Below.refl w.heap.size w).alloc (Nat.le_refl _) (.cells #[.int .u64 (L : Int)] 228)
  have hto : (UInt64.ofNat L).toNat = L := by simp; omega
  have HBx : Hid (BoxX (w.alloc (.cells #[.int .u64 (L : Int)] 228)) w.heap.size (UInt64.ofNat L).toNat) := Lib.hid (by rw [hto]; exact heap_alloc_new w _)
  have HRA := Lib.hid (show RowU (w.alloc (.cells #[.int .u64 (L : Int)] 228)) k d rest from (hA.block k hkw).trans H.out)
  have HKA := Lib.hid (Below.keep0 (fun x => x = k) hA)
  have hne : k ≠ w.heap.size := by omega
  have hLb : a + L ≤ b := by omega
  have hLb2 : b ≤ a + L := by omega
  clear hM hbp hA hto hL
  have hLq : q * 4 ≤ L := by omega
  have hLq2 : L < q * 4 + 4 := by omega
  clear hq
  go_enter Tryz.func144, Tryz.ntmps144
  go_wp2_with fail
  refine (HNP.out _).mono ?_
  rintro e w' ⟨rfl, rfl⟩
  go_wp2_with fail
  go_loopw [9] (fun vi wr => ∃ (t : Nat) (r : UInt64) (dk : Array Int), vi = .int .i64 ((a + q * 2 - 1 + t : Nat) : Int) ∧ t ≤ 3 ∧ dk.size = d.size ∧ RowU wr k dk rest ∧ BoxX wr w.heap.size r.toNat ∧ Keep (fun x => x = k) w wr ∧
      bpRest a L M (a + q * 2 - 1) (3 - t) t (r, dk) = bpRest a L M (a + q * 2 - 1) 3 0 (UInt64.ofNat L, d)) (fun vi _ => a + q * 2 + 3 - (intOf vi).toNat)
  case atStart => exact ⟨0, UInt64.ofNat L, d, by first | rfl | (congr 1; omega), by omega, rfl, HRA.out, HBx.out, HKA.out, rfl⟩
  case round =>
    obtain ⟨t, r, dk, rfl, ht3, hsk, hR, hB, hK, hO⟩ := hrel
    have HR := Lib.hid hR
    have HK := Lib.hid hK
    have HO := Lib.hid hO
    clear HRA HBx HKA
    obtain ⟨R, hRr⟩ : ∃ R : Nat, R = r.toNat := ⟨_, rfl⟩
    have lR : R < 18446744073709551616 := by rw [hRr]; exact r.toNat_lt
    obtain ⟨R', hR'⟩ : ∃ R' : Nat, R' = xorNextN R := ⟨_, rfl⟩
    have lR' : R' < 18446744073709551616 := by rw [hR']; exact xorNextN_lt R lR
    obtain ⟨O, hOO⟩ : ∃ O : Nat, O = R' &&& (M - 1) := ⟨_, rfl⟩
    have lO : O ≤ M - 1 := by rw [hOO]; exact Nat.and_le_right
    have eAnd : bits .and .u64 (R' : Int) ((M : Int) - 1) = (O : Int) := by
      rw [show ((M : Int) - 1) = ((M - 1 : Nat) : Int) by omega, bits_and_u64_nat _ _ lR' (by omega), hOO]
    have hOw : IntKind.i64.wrap (O : Int) = (O : Int) := IntWalk.i64_in _ (by omega)
    rw [← hRr] at hB
    have HN : Hid (R' = (xorNext r).toNat ∧ O = (xorNext r).toNat &&& (M - 1)) := by
      have e : R' = (xorNext r).toNat := by rw [hR', hRr, xorNext_toNat]
      exact ⟨e, by rw [hOO, e]⟩
    have HXn := Lib.hid (xnext_any w.heap.size R lR wr hB)
    rw [← hR'] at HXn
    have HB := Lib.hid hB
    obtain ⟨ix, hix⟩ : ∃ ix : Nat, ix = a + q * 2 - 1 + t := ⟨_, rfl⟩
    rw [← hix]
    have hixd : ix < d.size ∨ t = 3 := by omega
    have HIx := Lib.hid hix
    clear hR hK hO hB hRr hR' hOO
    by_cases ht4 : t < 3
    · have hixs : ix < d.size := by omega
      have hc : (ix : Int) ≤ (a : Int) + (q : Int) * 2 + 1 := by omega
      have hiw : IntKind.i64.wrap ((ix : Int) + 1) = (ix : Int) + 1 := IntWalk.i64_in _ (by omega)
      clear hix hixd
      go_wp2_with fail
      refine HXn.out.mono ?_
      rintro e w5 ⟨rfl, hb5, hk5⟩
      have HR5 := Lib.hid (HR.out.keep hk5 hne)
      have HK5 := Lib.hid (HK.out.chainU hk5 (fun x hx => Or.inr (by subst hx; exact Nat.le_refl _)))
      have HB5 := Lib.hid hb5
      rw [HN.out.1] at HB5
      clear hb5 hk5
      by_cases hlo : L ≤ O
      · have hloi : (L : Int) ≤ (O : Int) := by omega
        have hlow : IntKind.i64.wrap ((O : Int) - (L : Int)) = (O : Int) - (L : Int) := IntWalk.i64_in _ (by omega)
        obtain ⟨ox, hox⟩ : ∃ ox : Nat, ox = a + (O - L) := ⟨_, rfl⟩
        have hoi : (a : Int) + ((O : Int) - (L : Int)) = (ox : Int) := by omega
        have how : IntKind.i64.wrap ((a : Int) + ((O : Int) - (L : Int))) = (ox : Int) := by rw [hoi]; exact IntWalk.i64_in _ (by omega)
        have hoxs : ox < d.size := by omega
        have hbs := bp_step a L M (a + q * 2 - 1) t r dk (O - L) ht4 (by rw [← HN.out.2, if_pos hlo])
        rw [← HIx.out, ← hox] at hbs
        have HBs := Lib.hid hbs
        clear hox hbs
        obtain ⟨x, hx⟩ : ∃ x, x = dk[ix]! := ⟨_, rfl⟩
        obtain ⟨cx, fx⟩ := HR5.out.cell (i := ix) (by omega)
        rw [← hx] at cx
        have Gx := Lib.hid hx
        clear hx
        obtain ⟨xw, x0, xs, xn⟩ := idx (e := (ix : Int)) (n := ix) (s := d.size) (by first | rfl | omega) (by omega) hsz
        obtain ⟨y, hy⟩ : ∃ x, x = dk[ox]! := ⟨_, rfl⟩
        obtain ⟨cy, fy⟩ := HR5.out.cell (i := ox) (by omega)
        rw [← hy] at cy
        have Gy := Lib.hid hy
        clear hy
        obtain ⟨yw, y0, ys, yn⟩ := idx (e := (ox : Int)) (n := ox) (s := d.size) (by first | rfl | omega) (by omega) hsz
        obtain ⟨cz, fz⟩ := (HR5.out.set (i := ix) (by omega) y).cell (i := ox) (by simp; omega)
        generalize (dk.setIfInBounds ix y)[ox]! = z at cz
        have cz2 : ∀ q : Nat, ((w5.drewN q).setCell ⟨k, ix, none⟩ (.int .u64 y)).cell? ⟨k, ox, none⟩ = some (.int .u64 z) := fun _ => cz
        have fz2 : ∀ q : Nat, ((w5.drewN q).setCell ⟨k, ix, none⟩ (.int .u64 y)).frozen? ⟨k, ox, none⟩ = false := fun _ => fz
        go_wp2_with fail
        go_region
        all_goals go_wp2_with fail
        go_roundw
        case rel => exact ⟨t + 1, xorNext r, swp dk ix ox, (by have := HIx.out; congr 1; omega), by omega, by rw [size_swp]; exact hsk, (by
  have := HR5.out.swap (i := ix) (j := ox) (by omega) (by omega)
  rw [← Gx.out, ← Gy.out] at this
  exact this), (((HB5.out.other (i := ix) hne).other (i := ox) hne)), (keep_swap HK5.out _ _ _ _).drew, (by rw [← HO.out, HBs.out])⟩
        case measure => (simp [intOf]; try omega)
      · have hloi : ¬ ((L : Int) ≤ (O : Int)) := by omega
        obtain ⟨ox, hox⟩ : ∃ ox : Nat, ox = a + (O) := ⟨_, rfl⟩
        have hoi : (a : Int) + (O : Int) = (ox : Int) := by omega
        have how : IntKind.i64.wrap ((a : Int) + (O : Int)) = (ox : Int) := by rw [hoi]; exact IntWalk.i64_in _ (by omega)
        have hoxs : ox < d.size := by omega
        have hbs := bp_step a L M (a + q * 2 - 1) t r dk (O) ht4 (by rw [← HN.out.2, if_neg hlo])
        rw [← HIx.out, ← hox] at hbs
        have HBs := Lib.hid hbs
        clear hox hbs
        obtain ⟨x, hx⟩ : ∃ x, x = dk[ix]! := ⟨_, rfl⟩
        obtain ⟨cx, fx⟩ := HR5.out.cell (i := ix) (by omega)
        rw [← hx] at cx
        have Gx := Lib.hid hx
        clear hx
        obtain ⟨xw, x0, xs, xn⟩ := idx (e := (ix : Int)) (n := ix) (s := d.size) (by first | rfl | omega) (by omega) hsz
        obtain ⟨y, hy⟩ : ∃ x, x = dk[ox]! := ⟨_, rfl⟩
        obtain ⟨cy, fy⟩ := HR5.out.cell (i := ox) (by omega)
        rw [← hy] at cy
        have Gy := Lib.hid hy
        clear hy
        obtain ⟨yw, y0, ys, yn⟩ := idx (e := (ox : Int)) (n := ox) (s := d.size) (by first | rfl | omega) (by omega) hsz
        obtain ⟨cz, fz⟩ := (HR5.out.set (i := ix) (by omega) y).cell (i := ox) (by simp; omega)
        generalize (dk.setIfInBounds ix y)[ox]! = z at cz
        have cz2 : ∀ q : Nat, ((w5.drewN q).setCell ⟨k, ix, none⟩ (.int .u64 y)).cell? ⟨k, ox, none⟩ = some (.int .u64 z) := fun _ => cz
        have fz2 : ∀ q : Nat, ((w5.drewN q).setCell ⟨k, ix, none⟩ (.int .u64 y)).frozen? ⟨k, ox, none⟩ = false := fun _ => fz
        go_wp2_with fail
        go_region
        all_goals go_wp2_with fail
        go_roundw
        case rel => exact ⟨t + 1, xorNext r, swp dk ix ox, (by have := HIx.out; congr 1; omega), by omega, by rw [size_swp]; exact hsk, (by
  have := HR5.out.swap (i := ix) (j := ox) (by omega) (by omega)
  rw [← Gx.out, ← Gy.out] at this
  exact this), (((HB5.out.other (i := ix) hne).other (i := ox) hne)), (keep_swap HK5.out _ _ _ _).drew, (by rw [← HO.out, HBs.out])⟩
        case measure => (simp [intOf]; try omega)
    · have hc : ¬ ((ix : Int) ≤ (a : Int) + (q : Int) * 2 + 1) := by omega
      have ht3' : t = 3 := by omega
      clear hix
      go_wp2_with fail
      go_end0
      refine ⟨rfl, ?_, HK.out⟩
      have : breakPatterns d a b = dk := by rw [HBP.out, ← HO.out, ht3']; rfl
      rw [this]; exact HR.out
end Go.Proofs.YtgmdedkingampaaGreat

namespace Go.Proofs.YtgmdedkingampaaGreat
open Go.ChangeShapes Go.WideShapes Go.ChangeAt Go.RowKit Go.Sort
set_option maxRecDepth 100000

theorem fixDown_no {a k : Nat} {d : Array Int} (h : ¬ k - a ≥ 2) : fixDown ltInt a k d = d := by unfold fixDown; rw [if_neg h]
theorem fixDown_yes {a k : Nat} {d : Array Int} (h : k - a ≥ 2) : fixDown ltInt a k d = shiftDown ltInt (k - 1) d := by unfold fixDown; rw [if_pos h]
theorem fixUp_no {b k : Nat} {d : Array Int} (h : ¬ b - k ≥ 2) : fixUp ltInt b k d = d := by unfold fixUp; rw [if_neg h]
theorem fixUp_yes {b k : Nat} {d : Array Int} (h : b - k ≥ 2) : fixUp ltInt b k d = shiftUp ltInt b (k + 1) d := by unfold fixUp; rw [if_pos h]
theorem keep_dr {S : Nat → Prop} {a w w' : World} (h : Keep S a w) (hd : Drew w w') : Keep S a w' := by obtain ⟨n, rfl⟩ := hd; exact h.drewN n
theorem row_dr {w w' : World} {k : Nat} {d : Array Int} {rest : List Value} (h : RowU w k d rest) (hd : Drew w w') : RowU w' k d rest := by obtain ⟨n, rfl⟩ := hd; exact h
set_option maxHeartbeats 16000000 in
theorem partial_n {w : World} {k n : Nat} {d : Array Int} {rest : List Value} (h : RowU w k d rest) (hn : d.size = n) (cap a b : Nat) (hab : a + 12 < b) (hb : b ≤ n) (hsz : n < 1000000000000) :
    Calls Tryz.prog 147 #[.slice (some ⟨k, 0, none⟩) n cap, .int .i64 a, .int .i64 b] w fun e w' => e = .returned (.bool (Sort.partialInsertionSort ltInt d a b).2) ∧ RowU w' k (Sort.partialInsertionSort ltInt d a b).1 rest ∧ Keep (fun x => x = k) w w' := by
  have H := Lib.hid h
  have HN := Lib.hid hn
  clear h hn
  have HS : Hid (Sort.partialInsertionSort ltInt d a b = partialIns ltInt a b 5 (a + 1) d) := Lib.hid rfl
  have hbw : IntKind.i64.wrap ((b : Int) - (a : Int)) = (b : Int) - (a : Int) := IntWalk.i64_in _ (by omega)
  have haw : IntKind.i64.wrap ((a : Int) + 1) = (a : Int) + 1 := IntWalk.i64_in _ (by omega)
  go_enter Tryz.func147, Tryz.ntmps147
  go_wp2_with fail
  go_loopw [7, 8, 9, 10] (fun vi vj _ _ wr => ∃ (i s : Nat) (dk : Array Int), vi = .int .i64 i ∧ vj = .int .i64 s ∧ s ≤ 5 ∧ a < i ∧ i ≤ b ∧ dk.size = n ∧ RowU wr k dk rest ∧ Keep (fun x => x = k) w wr ∧ partialIns ltInt a b (5 - s) i dk = partialIns ltInt a b 5 (a + 1) d) (fun _ vj _ _ _ => 5 - (intOf vj).toNat)
  case atStart => exact ⟨a + 1, 0, d, by first | rfl | go_num, rfl, by omega, by omega, by omega, HN.out, H.out, Keep.refl _ _, rfl⟩
  case round =>
    obtain ⟨i, s, dk, rfl, rfl, hs5, hai, hib, hdk, hR, hK, hO⟩ := hrel
    have HR := Lib.hid hR
    have HK := Lib.hid hK
    have HO := Lib.hid hO
    have HDk := Lib.hid hdk
    clear hR hK hO hdk
    by_cases hs : s < 5
    rotate_left
    · have hs' : s = 5 := by omega
      subst hs'
      have hds : decide (((5 : Nat) : Int) < 5) = false := by decide
      go_wp2_with fail
      go_returns
      rw [HS.out, ← HO.out]
      exact ⟨by simp [partialIns], by simpa [partialIns] using HR.out, HK.out⟩
    · have hsi : (s : Int) < 5 := by omega
      have hsw : IntKind.i64.wrap ((s : Int) + 1) = (s : Int) + 1 := IntWalk.i64_in _ (by omega)
      go_wp2_with fail
      go_loopw [7] (fun vi wr2 => ∃ j : Nat, vi = .int .i64 j ∧ i ≤ j ∧ j ≤ b ∧ scanSorted ltInt dk b j = scanSorted ltInt dk b i ∧ Drew wr wr2) (fun vi _ => b - (intOf vi).toNat)
      case atStart => exact ⟨i, rfl, Nat.le_refl _, hib, rfl, Drew.refl _⟩
      case round =>
        obtain ⟨j, rfl, hij, hjb, hsc, hD⟩ := hrel
        have HSc := Lib.hid hsc
        have HR2 := Lib.hid (row_dr HR.out hD)
        have HK2 := Lib.hid (keep_dr HK.out hD)
        have HD2 := Lib.hid hD
        clear hD hsc
        by_cases hlt : j < b
        · have hlti : (j : Int) < (b : Int) := by omega
          obtain ⟨i', rfl⟩ : ∃ i', j = i' + 1 := ⟨j - 1, by omega⟩
          have hdk := HDk.out
          obtain ⟨x, hx⟩ : ∃ x, x = dk[i' + 1]! := ⟨_, rfl⟩
          obtain ⟨y, hy⟩ : ∃ x, x = dk[i']! := ⟨_, rfl⟩
          obtain ⟨cx, fx⟩ := HR2.out.cell (i := i' + 1) (by omega)
          obtain ⟨cy, fy⟩ := HR2.out.cell (i := i') (by omega)
          rw [← hx] at cx
          rw [← hy] at cy
          have HX := Lib.hid hx
          have HY := Lib.hid hy
          clear hx hy
          obtain ⟨xw, x0, xs, xn⟩ := idx (e := (i' : Int) + 1) (n := i' + 1) (s := n) (by omega) (by omega) (by omega)
          obtain ⟨yw, y0, ys, yn⟩ := idx (e := (i' : Int)) (n := i') (s := n) (by omega) (by omega) (by omega)
          have hwr2 : IntKind.i64.wrap ((i' : Int) + 1 - 1) = (i' : Int) := by rw [Int.add_sub_cancel]; exact yw
          clear hdk
          have hlt2 : (i' : Int) + 1 < (b : Int) := by omega
          have hiw2 : IntKind.i64.wrap ((i' : Int) + 1 + 1) = (i' : Int) + 1 + 1 := IntWalk.i64_in _ (by omega)
          go_wp2_with fail
          go_quiet (first | (go_at_call 148; first | exact quiet_same (less_u _ _ _) | exact quiet_same2 (less_u _ _ _)) | fail)
          cases hl : ltInt x y
          · have HL := Lib.hid hl
            clear hl
            go_wp2_with fail
            go_roundw
            case rel => exact ⟨i' + 2, by first | rfl | go_num, by omega, by omega, (by rw [← HSc.out]; exact (scanSorted_go ltInt dk b (i' + 1) hlt (by rw [Nat.add_sub_cancel, ← HX.out, ← HY.out]; exact HL.out)).symm), HD2.out.drewN _⟩
            case measure => (simp [intOf]; try omega)
          · have hk : scanSorted ltInt dk b i = i' + 1 := by rw [← HSc.out]; exact scanSorted_stop ltInt dk b (i' + 1) (Or.inr (by rw [Nat.add_sub_cancel, ← HX.out, ← HY.out]; exact hl))
            have HKk := Lib.hid hk
            have hne : ((i' : Int) + 1 == (b : Int)) = false := by rw [beq_eq_false_iff_ne]; omega
            clear hl hk
            by_cases h50 : b - a < 50
            · have h50i : (b : Int) - (a : Int) < 50 := by omega
              go_wp2_with fail
              go_returns
              have e : partialIns ltInt a b (5 - s) i dk = (dk, false) := pi_short ltInt a b s i dk hs (by rw [HKk.out]; omega) h50
              rw [HS.out, ← HO.out, e]
              exact ⟨rfl, HR2.out, HK2.out.drewN _⟩
            · have h50i : ¬ ((b : Int) - (a : Int) < 50) := by omega
              have HG := Lib.hid (pi_go ltInt a b s i (i' + 1) dk hs HKk.out (by omega) h50)
              rw [Nat.add_sub_cancel] at HG
              have hw1 := HR2.out.swap (i := i' + 1) (j := i') (by have := HDk.out; omega) (by have := HDk.out; omega)
              rw [← HX.out, ← HY.out] at hw1
              have HW1 := Lib.hid hw1
              have HS1 : Hid ((swp dk (i' + 1) i').size = n) := Lib.hid (by rw [size_swp]; exact HDk.out)
              clear hw1
              go_upto_region 11 with fail
              go_cut [7, 8] from 13 (fun s7 s8 wc => s7 = .int .i64 ((i' : Int) + 1) ∧ s8 = .int .i64 s ∧ RowU wc k (swp dk (i' + 1) i') rest ∧ Keep (fun x => x = k) w wc)
              case first =>
                go_region
                all_goals
                  go_wp2_with fail
                  go_meet
                  case rel => exact ⟨rfl, rfl, HW1.out, by first | exact keep_swap HK2.out _ _ _ _ | exact (keep_swap HK2.out _ _ _ _).drewN _ | exact keep_swap (HK2.out.drewN _) _ _ _ _⟩
              case rest =>
                obtain ⟨rfl, rfl, hR3, hK3⟩ := hcut
                have HR3 := Lib.hid hR3
                have HK3 := Lib.hid hK3
                clear hR3 hK3 HX HY HW1 cx cy fx fy HR2 HK2 HR HK
                generalize swp dk (i' + 1) i' = d1 at *
                have hwa : IntKind.i64.wrap ((i' : Int) + 1 - (a : Int)) = (i' : Int) + 1 - (a : Int) := IntWalk.i64_in _ (by omega)
                have hwb : IntKind.i64.wrap ((b : Int) - ((i' : Int) + 1)) = (b : Int) - ((i' : Int) + 1) := IntWalk.i64_in _ (by omega)
                go_upto_if 61 with fail
                go_cut [7, 8, 9] from 13 (fun s7 s8 _ wc => s7 = .int .i64 ((i' : Int) + 1) ∧ s8 = .int .i64 s ∧ (fixDown ltInt a (i' + 1) d1).size = n ∧ RowU wc k (fixDown ltInt a (i' + 1) d1) rest ∧ Keep (fun x => x = k) w wc)
                case first =>
                  by_cases h2 : i' + 1 - a ≥ 2
                  · have h2i : (2 : Int) ≤ (i' : Int) + 1 - (a : Int) := by omega
                    have HFd := Lib.hid (fixDown_yes (d := d1) h2)
                    rw [Nat.add_sub_cancel] at HFd
                    go_wp2_with fail
                    go_loopw [9] (fun vj wr2 => ∃ (j : Nat) (dj : Array Int), vj = .int .i64 j ∧ j ≤ i' ∧ dj.size = n ∧ RowU wr2 k dj rest ∧ Keep (fun x => x = k) w wr2 ∧ shiftDown ltInt j dj = shiftDown ltInt i' d1) (fun vj _ => (intOf vj).toNat)
                    case atStart => exact ⟨i', d1, rfl, Nat.le_refl _, HS1.out, HR3.out, HK3.out, rfl⟩
                    case round =>
                      obtain ⟨j, dj, rfl, hji, hdj, hR4, hK4, hsd⟩ := hrel
                      have HR4 := Lib.hid hR4
                      have HK4 := Lib.hid hK4
                      have HSd := Lib.hid hsd
                      have HDj := Lib.hid hdj
                      clear hR4 hK4 hsd
                      by_cases hj1 : 1 ≤ j
                      · obtain ⟨j', rfl⟩ : ∃ j', j = j' + 1 := ⟨j - 1, by omega⟩
                        obtain ⟨x, hx⟩ : ∃ x, x = dj[j' + 1]! := ⟨_, rfl⟩
                        obtain ⟨y, hy⟩ : ∃ x, x = dj[j']! := ⟨_, rfl⟩
                        obtain ⟨cx, fx⟩ := HR4.out.cell (i := j' + 1) (by omega)
                        obtain ⟨cy, fy⟩ := HR4.out.cell (i := j') (by omega)
                        rw [← hx] at cx
                        rw [← hy] at cy
                        have HX := Lib.hid hx
                        have HY := Lib.hid hy
                        clear hx hy
                        obtain ⟨xw, x0, xs, xn⟩ := idx (e := (j' : Int) + 1) (n := j' + 1) (s := n) (by omega) (by omega) (by omega)
                        obtain ⟨yw, y0, ys, yn⟩ := idx (e := (j' : Int)) (n := j') (s := n) (by omega) (by omega) (by omega)
                        have hwr2 : IntKind.i64.wrap ((j' : Int) + 1 - 1) = (j' : Int) := by rw [Int.add_sub_cancel]; exact yw
                        clear hdj
                        have hj1i : (1 : Int) ≤ (j' : Int) + 1 := by omega
                        go_wp2_with fail
                        go_quiet (first | (go_at_call 148; first | exact quiet_same (less_u _ _ _) | exact quiet_same2 (less_u _ _ _)) | fail)
                        cases hl : ltInt x y
                        · have hst : shiftDown ltInt i' d1 = dj := by rw [← HSd.out]; exact shiftDown_stop ltInt (j' + 1) dj (Or.inr (by rw [Nat.add_sub_cancel, ← HX.out, ← HY.out]; exact hl))
                          have HSt := Lib.hid hst
                          clear hl hst
                          go_wp2_with fail
                          go_meet
                          case rel => exact ⟨rfl, rfl, by rw [HFd.out, HSt.out]; exact HDj.out, by rw [HFd.out, HSt.out]; exact HR4.out.drewN _, by exact HK4.out.drewN _⟩
                        · have hgo := shiftDown_go ltInt (j' + 1) dj (by omega) (by rw [Nat.add_sub_cancel, ← HX.out, ← HY.out]; exact hl)
                          rw [Nat.add_sub_cancel] at hgo
                          have HGo := Lib.hid (hgo.symm.trans HSd.out)
                          have hw1 := HR4.out.swap (i := j' + 1) (j := j') (by have := HDj.out; omega) (by have := HDj.out; omega)
                          rw [← HX.out, ← HY.out] at hw1
                          have HW1 := Lib.hid hw1
                          clear hl hgo hw1
                          go_wp2_with fail
                          go_region
                          all_goals go_wp2_with fail
                          go_roundw
                          case rel => exact ⟨j', _, by first | rfl | go_num, by omega, by rw [size_swp]; exact HDj.out, HW1.out, by first | exact keep_swap HK4.out _ _ _ _ | exact (keep_swap HK4.out _ _ _ _).drewN _ | exact keep_swap (HK4.out.drewN _) _ _ _ _, HGo.out⟩
                          case measure => (simp [intOf]; try omega)
                      · have hj0 : j = 0 := by omega
                        subst hj0
                        have hst : shiftDown ltInt i' d1 = dj := by rw [← HSd.out]; exact shiftDown_stop ltInt 0 dj (Or.inl rfl)
                        have HSt := Lib.hid hst
                        have hj1i : decide (1 ≤ ((0 : Nat) : Int)) = false := by decide
                        clear hst
                        go_wp2_with fail
                        go_meet
                        case rel => exact ⟨rfl, rfl, by rw [HFd.out, HSt.out]; exact HDj.out, by rw [HFd.out, HSt.out]; exact HR4.out, HK4.out⟩
                  · have h2i : ¬ ((2 : Int) ≤ (i' : Int) + 1 - (a : Int)) := by omega
                    have HFd := Lib.hid (fixDown_no (d := d1) h2)
                    go_wp2_with fail
                    go_meet
                    case rel => exact ⟨rfl, rfl, by rw [HFd.out]; exact HS1.out, by rw [HFd.out]; exact HR3.out, HK3.out⟩
                case rest =>
                  obtain ⟨rfl, rfl, hd2, hR4, hK4⟩ := hcut
                  have HR4 := Lib.hid hR4
                  have HK4 := Lib.hid hK4
                  clear hR4 hK4
                  generalize fixDown ltInt a (i' + 1) d1 = d2 at *
                  have HD2' := Lib.hid hd2
                  clear hd2 HR3 HK3 HS1
                  by_cases h2 : b - (i' + 1) ≥ 2
                  · have h2i : (2 : Int) ≤ (b : Int) - ((i' : Int) + 1) := by omega
                    have HFu := Lib.hid (fixUp_yes (d := d2) h2)
                    have hiw2 : IntKind.i64.wrap ((i' : Int) + 1 + 1) = (i' : Int) + 1 + 1 := IntWalk.i64_in _ (by omega)
                    go_wp2_with fail
                    go_loopw [10] (fun vj wr2 => ∃ (j : Nat) (dj : Array Int), vj = .int .i64 j ∧ i' + 2 ≤ j ∧ j ≤ b ∧ dj.size = n ∧ RowU wr2 k dj rest ∧ Keep (fun x => x = k) w wr2 ∧ shiftUp ltInt b j dj = shiftUp ltInt b (i' + 1 + 1) d2) (fun vj _ => b - (intOf vj).toNat)
                    case atStart => exact ⟨i' + 2, d2, by first | rfl | go_num, Nat.le_refl _, by omega, HD2'.out, HR4.out, HK4.out, rfl⟩
                    case round =>
                      obtain ⟨j, dj, rfl, hji, hjb2, hdj, hR5, hK5, hsu⟩ := hrel
                      have HR5 := Lib.hid hR5
                      have HK5 := Lib.hid hK5
                      have HSu := Lib.hid hsu
                      have HDj := Lib.hid hdj
                      clear hR5 hK5 hsu
                      by_cases hjb3 : j < b
                      · obtain ⟨j', rfl⟩ : ∃ j', j = j' + 1 := ⟨j - 1, by omega⟩
                        obtain ⟨x, hx⟩ : ∃ x, x = dj[j' + 1]! := ⟨_, rfl⟩
                        obtain ⟨y, hy⟩ : ∃ x, x = dj[j']! := ⟨_, rfl⟩
                        obtain ⟨cx, fx⟩ := HR5.out.cell (i := j' + 1) (by omega)
                        obtain ⟨cy, fy⟩ := HR5.out.cell (i := j') (by omega)
                        rw [← hx] at cx
                        rw [← hy] at cy
                        have HX := Lib.hid hx
                        have HY := Lib.hid hy
                        clear hx hy
                        obtain ⟨xw, x0, xs, xn⟩ := idx (e := (j' : Int) + 1) (n := j' + 1) (s := n) (by omega) (by omega) (by omega)
                        obtain ⟨yw, y0, ys, yn⟩ := idx (e := (j' : Int)) (n := j') (s := n) (by omega) (by omega) (by omega)
                        have hwr2 : IntKind.i64.wrap ((j' : Int) + 1 - 1) = (j' : Int) := by rw [Int.add_sub_cancel]; exact yw
                        clear hdj
                        have hj1i : (j' : Int) + 1 < (b : Int) := by omega
                        have hjw2 : IntKind.i64.wrap ((j' : Int) + 1 + 1) = (j' : Int) + 1 + 1 := IntWalk.i64_in _ (by omega)
                        go_wp2_with fail
                        go_quiet (first | (go_at_call 148; first | exact quiet_same (less_u _ _ _) | exact quiet_same2 (less_u _ _ _)) | fail)
                        cases hl : ltInt x y
                        · have hst : shiftUp ltInt b (i' + 1 + 1) d2 = dj := by rw [← HSu.out]; exact shiftUp_stop ltInt b (j' + 1) dj (Or.inr (by rw [Nat.add_sub_cancel, ← HX.out, ← HY.out]; exact hl))
                          have HSt := Lib.hid hst
                          clear hl hst
                          go_wp2_with fail
                          go_roundw
                          case rel => exact ⟨i' + 1, s + 1, dj, by first | rfl | go_num, by first | rfl | go_num, by omega, by omega, by omega, HDj.out, HR5.out.drewN _, HK5.out.drewN _, by rw [← HO.out, HG.out, HFu.out, HSt.out]⟩
                          case measure => (simp [intOf]; try omega)
                        · have hgo := shiftUp_go ltInt b (j' + 1) dj (by omega) (by rw [Nat.add_sub_cancel, ← HX.out, ← HY.out]; exact hl)
                          rw [Nat.add_sub_cancel] at hgo
                          have HGo := Lib.hid (hgo.symm.trans HSu.out)
                          have hw1 := HR5.out.swap (i := j' + 1) (j := j') (by have := HDj.out; omega) (by have := HDj.out; omega)
                          rw [← HX.out, ← HY.out] at hw1
                          have HW1 := Lib.hid hw1
                          clear hl hgo hw1
                          go_wp2_with fail
                          go_region
                          all_goals go_wp2_with fail
                          go_roundw
                          case rel => exact ⟨j' + 2, _, by first | rfl | go_num, by omega, by omega, by rw [size_swp]; exact HDj.out, HW1.out, by first | exact keep_swap HK5.out _ _ _ _ | exact (keep_swap HK5.out _ _ _ _).drewN _ | exact keep_swap (HK5.out.drewN _) _ _ _ _, HGo.out⟩
                          case measure => (simp [intOf]; try omega)
                      · have hj0 : j = b := by omega
                        subst hj0
                        have hst : shiftUp ltInt j (i' + 1 + 1) d2 = dj := by rw [← HSu.out]; exact shiftUp_stop ltInt j j dj (Or.inl hjb3)
                        have HSt := Lib.hid hst
                        have hj1i : decide ((j : Int) < (j : Int)) = false := decide_eq_false (by omega)
                        clear hst
                        go_wp2_with fail
                        go_roundw
                        case rel => exact ⟨i' + 1, s + 1, dj, by first | rfl | go_num, by first | rfl | go_num, by omega, by omega, by omega, HDj.out, HR5.out, HK5.out, by rw [← HO.out, HG.out, HFu.out, HSt.out]⟩
                        case measure => (simp [intOf]; try omega)
                  · have h2i : ¬ ((2 : Int) ≤ (b : Int) - ((i' : Int) + 1)) := by omega
                    have HFu := Lib.hid (fixUp_no (d := d2) h2)
                    go_wp2_with fail
                    go_roundw
                    case rel => exact ⟨i' + 1, s + 1, d2, by first | rfl | go_num, by first | rfl | go_num, by omega, by omega, by omega, HD2'.out, HR4.out, HK4.out, by rw [← HO.out, HG.out, HFu.out]⟩
                    case measure => (simp [intOf]; try omega)
        · have hib2 : j = b := by omega
          subst hib2
          have hk : scanSorted ltInt dk j i = j := by rw [← HSc.out]; exact scanSorted_stop ltInt dk j j (Or.inl hlt)
          have HKk := Lib.hid hk
          have hlti : ¬ ((j : Int) < (j : Int)) := by omega
          clear hk
          go_wp2_with fail
          go_quiet (fail)
          go_wp2_with fail
          go_returns
          have e : partialIns ltInt a j (5 - s) i dk = (dk, true) := pi_true ltInt a j s i dk hs HKk.out
          rw [HS.out, ← HO.out, e]
          exact ⟨rfl, HR2.out, HK2.out.drewN _⟩
theorem partial_u {w : World} {k : Nat} {d : Array Int} {rest : List Value} (h : RowU w k d rest) (cap a b : Nat) (hab : a + 12 < b) (hb : b ≤ d.size) (hsz : d.size < 1000000000000) :
    Calls Tryz.prog 147 #[.slice (some ⟨k, 0, none⟩) d.size cap, .int .i64 a, .int .i64 b] w fun e w' => e = .returned (.bool (Sort.partialInsertionSort ltInt d a b).2) ∧ RowU w' k (Sort.partialInsertionSort ltInt d a b).1 rest ∧ Keep (fun x => x = k) w w' := partial_n h rfl cap a b hab hb hsz
end Go.Proofs.YtgmdedkingampaaGreat
