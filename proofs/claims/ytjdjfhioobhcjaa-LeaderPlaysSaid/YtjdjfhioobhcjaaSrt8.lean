/-
  The library's sort at numbers of 64 bits without sign: patterns broken; few numbers tried in place.
-/
import Derived.Test.YtjdjfhioobhcjaaSrt7
import Derived.Test.YtjdjfhioobhcjaaSrt6
import Derived.Test.YtjdjfhioobhcjaaShX
import Derived.Shelf.SortM.Walk7aIn
import Derived.Sort.Walk7
import Derived.Sort.WalkA6
import Derived.Sort.EveryDepth
namespace Go.Proofs.Ytjdjfhioobhcjaa
open Go.ChangeShapes Go.WideShapes Go.ChangeAt Go.RowKit Go.Sort
set_option maxRecDepth 100000

def BoxX (w : World) (b : Nat) (s : Nat) : Prop := w.heap[b]? = some (.cells #[.int .u64 s] 170 (0, 0))
theorem BoxX.cell {w : World} {b s : Nat} (h : BoxX w b s) : w.cell? ⟨b, 0, none⟩ = some (.int .u64 s) ∧ w.frozen? ⟨b, 0, none⟩ = false := by
  unfold BoxX at h; simp [World.cell?, World.frozen?, h]
theorem BoxX.set {w : World} {b s : Nat} (h : BoxX w b s) (t : Nat) : BoxX (w.setCell ⟨b, 0, none⟩ (.int .u64 t)) b t := by
  unfold BoxX at *; simpa using heap_setCell_same w b 0 _ _ (.int .u64 t) h
theorem BoxX.other {w : World} {b s k i : Nat} {v : Value} (h : BoxX w b s) (hk : k ≠ b) : BoxX (w.setCell ⟨k, i, none⟩ v) b s := by
  unfold BoxX at *; rw [Below.heap_setCell _ _ _ _ (by simpa using fun e => hk e.symm)]; exact h
theorem npow_any (n : Nat) (hn : n < 4611686018427387904) (w : World) : Calls Try.prog 106 #[.int .i64 n] w fun e w' => e = .returned (.int .u64 ((1 <<< bitsLen n : Nat) : Int)) ∧ w = w' :=
  (calls_of_every_depth fun D => AnySM.nextPowerOfTwoIn (ρ := Try.npowA_ren) Try.npowA D n hn w).mono fun _ _ ⟨h1, h2⟩ => ⟨h1, h2.symm⟩
theorem xnext_any (rb X : Nat) (hX : X < 18446744073709551616) (w : World) (hb : BoxX w rb X) : Calls Try.prog 107 #[.pointer (some ⟨rb, 0, none⟩)] w fun e w' => e = .returned (.int .u64 (xorNextN X : Nat)) ∧ BoxX w' rb (xorNextN X) ∧ Keep (fun x => x = rb) w w' :=
  (calls_of_every_depth fun D => AnySM.xorshift_NextIn (ρ := Try.xorA_ren) Try.xorA D rb 0 X hX w hb.cell.1 hb.cell.2).mono fun _ w' ⟨h1, h2⟩ => by
    subst h2
    exact ⟨h1, hb.set _, ((Keep.refl (fun x => x = rb) w).setCell (p := ⟨rb, 0, none⟩) (Or.inl rfl) _).drewN 3⟩
theorem Keep.chainU {S T : Nat → Prop} {a b c : World} (h : Keep S a b) (k : Keep T b c) (hT : ∀ x, T x → S x ∨ a.heap.size ≤ x) : Keep S a c :=
  ⟨k.os.trans h.os, k.tape.trans h.tape, k.output.trans h.output, Nat.le_trans h.size k.size, fun x hx hn => (k.block x (Nat.lt_of_lt_of_le hx h.size) (fun ht => by rcases hT x ht with e | e; exact hn e; omega)).trans (h.block x hx hn)⟩

set_option maxHeartbeats 8000000 in
theorem break_u {w : World} {k : Nat} {d : Array Int} {rest : List Value} (h : RowU w k d rest) (cap a b : Nat) (hab : a + 12 < b) (hb : b ≤ d.size) (hsz : d.size < 1000000000000) :
    Calls Try.prog 96 #[.slice (some ⟨k, 0, none⟩) d.size cap, .int .i64 a, .int .i64 b] w fun e w' => e = .returned (.tuple #[]) ∧ RowU w' k (breakPatterns d a b) rest ∧ Keep (fun x => x = k) w w' := by
  have H := Lib.hid h
  have hkw := h.lt
  clear h
  obtain ⟨L, hL⟩ : ∃ L, L = b - a := ⟨_, rfl⟩
  have hli : (b : Int) - (a : Int) = (L : Int) := by omega
  have hw1 : IntKind.i64.wrap ((b : Int) - (a : Int)) = (L : Int) := by rw [hli]; exact IntWalk.i64_in _ (by omega)
  obtain ⟨M, hM⟩ : ∃ M : Nat, M = 1 <<< bitsLen L := ⟨_, rfl⟩
  have hM1 : 1 ≤ M := by rw [hM, Nat.one_shiftLeft]; exact Nat.two_pow_pos _
  have hM2 : M ≤ 2 * L := by rw [hM, Nat.one_shiftLeft]; exact two_pow_bitsLen_le (by omega)
  obtain ⟨q, hq⟩ : ∃ q, q = L / 4 := ⟨_, rfl⟩
  have ht : (L : Int).tdiv 4 = (q : Int) := by rw [hq, Int.tdiv_eq_ediv_of_nonneg (by omega)]; rfl
  have ht2 : (L : Int) / 4 = (q : Int) := by rw [hq]; rfl
  have hq2 : IntKind.i64.wrap ((q : Int) * 2) = (q : Int) * 2 := IntWalk.i64_in _ (by omega)
  have hq3 : IntKind.i64.wrap ((a : Int) + (q : Int) * 2) = (a : Int) + (q : Int) * 2 := IntWalk.i64_in _ (by omega)
  have hq4 : IntKind.i64.wrap ((a : Int) + (q : Int) * 2 - 1) = (a : Int) + (q : Int) * 2 - 1 := IntWalk.i64_in _ (by omega)
  have hq5 : IntKind.i64.wrap ((a : Int) + (q : Int) * 2 + 1) = (a : Int) + (q : Int) * 2 + 1 := IntWalk.i64_in _ (by omega)
  have hLu : IntKind.u64.wrap (L : Int) = (L : Int) := IntWalk.u64_in _ (by omega)
  have hMu : IntKind.u64.wrap ((M : Int) - 1) = (M : Int) - 1 := IntWalk.u64_in _ (by omega)
  have hl8 : (8 : Int) ≤ (L : Int) := by omega
  have hbp : breakPatterns d a b = bpRest a L M (a + q * 2 - 1) 3 0 (UInt64.ofNat L, d) := by
    rw [show b = a + L by omega, breakPatterns_eq d a L (by omega), ← hM, ← hq]
  have HNP := Lib.hid (fun w => npow_any L (by omega) w)
  rw [← hM] at HNP
  have HBP := Lib.hid hbp
  have HL := Lib.hid hL
  have hA := (Below.refl w.heap.size w).alloc (Nat.le_refl _) (.cells #[.int .u64 (L : Int)] 170)
  have hto : (UInt64.ofNat L).toNat = L := by simp; omega
  have HBx : Hid (BoxX (w.alloc (.cells #[.int .u64 (L : Int)] 170)) w.heap.size (UInt64.ofNat L).toNat) := Lib.hid (by rw [hto]; exact heap_alloc_new w _)
  have HRA := Lib.hid (show RowU (w.alloc (.cells #[.int .u64 (L : Int)] 170)) k d rest from (hA.block k hkw).trans H.out)
  have HKA := Lib.hid (Below.keep0 (fun x => x = k) hA)
  have hne : k ≠ w.heap.size := by omega
  have hLb : a + L ≤ b := by omega
  have hLb2 : b ≤ a + L := by omega
  clear hM hbp hA hto hL
  have hLq : q * 4 ≤ L := by omega
  have hLq2 : L < q * 4 + 4 := by omega
  clear hq
  go_enter Try.func96, Try.ntmps96
  go_wp2_with fail
  refine (HNP.out _).mono ?_
  rintro e w' ⟨rfl, rfl⟩
  go_wp2_with fail
  go_loopw [9] (fun vi wr => ∃ (t : Nat) (r : UInt64) (dk : Array Int), vi = .int .i64 ((a + q * 2 - 1 + t : Nat) : Int) ∧ t ≤ 3 ∧ dk.size = d.size ∧ RowU wr k dk rest ∧ BoxX wr w.heap.size r.toNat ∧ Keep (fun x => x = k) w wr ∧
      bpRest a L M (a + q * 2 - 1) (3 - t) t (r, dk) = bpRest a L M (a + q * 2 - 1) 3 0 (UInt64.ofNat L, d)) (fun vi _ => a + q * 2 + 3 - (intOf vi).toNat)
  case atStart => exact ⟨0, UInt64.ofNat L, d, by first | rfl | (congr 1; omega), by omega, rfl, HRA.out, HBx.out, HKA.out, rfl⟩
  case round =>
    obtain ⟨t, r, dk, rfl, ht3, hsk, hR, hB, hK, hO⟩ := hrel
    have HR := Lib.hid hR
    have HK := Lib.hid hK
    have HO := Lib.hid hO
    clear HRA HBx HKA
    obtain ⟨R, hRr⟩ : ∃ R : Nat, R = r.toNat := ⟨_, rfl⟩
    have lR : R < 18446744073709551616 := by rw [hRr]; exact r.toNat_lt
    obtain ⟨R', hR'⟩ : ∃ R' : Nat, R' = xorNextN R := ⟨_, rfl⟩
    have lR' : R' < 18446744073709551616 := by rw [hR']; exact xorNextN_lt R lR
    obtain ⟨O, hOO⟩ : ∃ O : Nat, O = R' &&& (M - 1) := ⟨_, rfl⟩
    have lO : O ≤ M - 1 := by rw [hOO]; exact Nat.and_le_right
    have eAnd : bits .and .u64 (R' : Int) ((M : Int) - 1) = (O : Int) := by
      rw [show ((M : Int) - 1) = ((M - 1 : Nat) : Int) by omega, bits_and_u64_nat _ _ lR' (by omega), hOO]
    have hOw : IntKind.i64.wrap (O : Int) = (O : Int) := IntWalk.i64_in _ (by omega)
    rw [← hRr] at hB
    have HN : Hid (R' = (xorNext r).toNat ∧ O = (xorNext r).toNat &&& (M - 1)) := by
      have e : R' = (xorNext r).toNat := by rw [hR', hRr, xorNext_toNat]
      exact ⟨e, by rw [hOO, e]⟩
    have HXn := Lib.hid (xnext_any w.heap.size R lR wr hB)
    rw [← hR'] at HXn
    have HB := Lib.hid hB
    obtain ⟨ix, hix⟩ : ∃ ix : Nat, ix = a + q * 2 - 1 + t := ⟨_, rfl⟩
    rw [← hix]
    have hixd : ix < d.size ∨ t = 3 := by omega
    have HIx := Lib.hid hix
    clear hR hK hO hB hRr hR' hOO
    by_cases ht4 : t < 3
    · have hixs : ix < d.size := by omega
      have hc : (ix : Int) ≤ (a : Int) + (q : Int) * 2 + 1 := by omega
      have hiw : IntKind.i64.wrap ((ix : Int) + 1) = (ix : Int) + 1 := IntWalk.i64_in _ (by omega)
      clear hix hixd
      go_wp2_with fail
      refine HXn.out.mono ?_
      rintro e w5 ⟨rfl, hb5, hk5⟩
      have HR5 := Lib.hid (HR.out.keep hk5 hne)
      have HK5 := Lib.hid (HK.out.chainU hk5 (fun x hx => Or.inr (by subst hx; exact Nat.le_refl _)))
      have HB5 := Lib.hid hb5
      rw [HN.out.1] at HB5
      clear hb5 hk5
      by_cases hlo : L ≤ O
      · have hloi : (L : Int) ≤ (O : Int) := by omega
        have hlow : IntKind.i64.wrap ((O : Int) - (L : Int)) = (O : Int) - (L : Int) := IntWalk.i64_in _ (by omega)
        obtain ⟨ox, hox⟩ : ∃ ox : Nat, ox = a + (O - L) := ⟨_, rfl⟩
        have hoi : (a : Int) + ((O : Int) - (L : Int)) = (ox : Int) := by omega
        have how : IntKind.i64.wrap ((a : Int) + ((O : Int) - (L : Int))) = (ox : Int) := by rw [hoi]; exact IntWalk.i64_in _ (by omega)
        have hoxs : ox < d.size := by omega
        have hbs := bp_step a L M (a + q * 2 - 1) t r dk (O - L) ht4 (by rw [← HN.out.2, if_pos hlo])
        rw [← HIx.out, ← hox] at hbs
        have HBs := Lib.hid hbs
        clear hox hbs
        obtain ⟨x, hx⟩ : ∃ x, x = dk[ix]! := ⟨_, rfl⟩
        obtain ⟨cx, fx⟩ := HR5.out.cell (i := ix) (by omega)
        rw [← hx] at cx
        have Gx := Lib.hid hx
        clear hx
        obtain ⟨xw, x0, xs, xn⟩ := idx (e := (ix : Int)) (n := ix) (s := d.size) (by first | rfl | omega) (by omega) hsz
        obtain ⟨y, hy⟩ : ∃ x, x = dk[ox]! := ⟨_, rfl⟩
        obtain ⟨cy, fy⟩ := HR5.out.cell (i := ox) (by omega)
        rw [← hy] at cy
        have Gy := Lib.hid hy
        clear hy
        obtain ⟨yw, y0, ys, yn⟩ := idx (e := (ox : Int)) (n := ox) (s := d.size) (by first | rfl | omega) (by omega) hsz
        obtain ⟨cz, fz⟩ := (HR5.out.set (i := ix) (by omega) y).cell (i := ox) (by simp; omega)
        generalize (dk.setIfInBounds ix y)[ox]! = z at cz
        have cz2 : ∀ q : Nat, ((w5.drewN q).setCell ⟨k, ix, none⟩ (.int .u64 y)).cell? ⟨k, ox, none⟩ = some (.int .u64 z) := fun _ => cz
        have fz2 : ∀ q : Nat, ((w5.drewN q).setCell ⟨k, ix, none⟩ (.int .u64 y)).frozen? ⟨k, ox, none⟩ = false := fun _ => fz
        go_wp2_with fail
        go_region
        all_goals go_wp2_with fail
        go_roundw
        case rel => exact ⟨t + 1, xorNext r, swp dk ix ox, (by have := HIx.out; congr 1; omega), by omega, by rw [size_swp]; exact hsk, (by
  have := HR5.out.swap (i := ix) (j := ox) (by omega) (by omega)
  rw [← Gx.out, ← Gy.out] at this
  exact this), (((HB5.out.other (i := ix) hne).other (i := ox) hne)), (keep_swap HK5.out _ _ _ _).drew, (by rw [← HO.out, HBs.out])⟩
        case measure => (simp [intOf]; try omega)
      · have hloi : ¬ ((L : Int) ≤ (O : Int)) := by omega
        obtain ⟨ox, hox⟩ : ∃ ox : Nat, ox = a + (O) := ⟨_, rfl⟩
        have hoi : (a : Int) + (O : Int) = (ox : Int) := by omega
        have how : IntKind.i64.wrap ((a : Int) + (O : Int)) = (ox : Int) := by rw [hoi]; exact IntWalk.i64_in _ (by omega)
        have hoxs : ox < d.size := by omega
        have hbs := bp_step a L M (a + q * 2 - 1) t r dk (O) ht4 (by rw [← HN.out.2, if_neg hlo])
        rw [← HIx.out, ← hox] at hbs
        have HBs := Lib.hid hbs
        clear hox hbs
        obtain ⟨x, hx⟩ : ∃ x, x = dk[ix]! := ⟨_, rfl⟩
        obtain ⟨cx, fx⟩ := HR5.out.cell (i := ix) (by omega)
        rw [← hx] at cx
        have Gx := Lib.hid hx
        clear hx
        obtain ⟨xw, x0, xs, xn⟩ := idx (e := (ix : Int)) (n := ix) (s := d.size) (by first | rfl | omega) (by omega) hsz
        obtain ⟨y, hy⟩ : ∃ x, x = dk[ox]! := ⟨_, rfl⟩
        obtain ⟨cy, fy⟩ := HR5.out.cell (i := ox) (by omega)
        rw [← hy] at cy
        have Gy := Lib.hid hy
        clear hy
        obtain ⟨yw, y0, ys, yn⟩ := idx (e := (ox : Int)) (n := ox) (s := d.size) (by first | rfl | omega) (by omega) hsz
        obtain ⟨cz, fz⟩ := (HR5.out.set (i := ix) (by omega) y).cell (i := ox) (by simp; omega)
        generalize (dk.setIfInBounds ix y)[ox]! = z at cz
        have cz2 : ∀ q : Nat, ((w5.drewN q).setCell ⟨k, ix, none⟩ (.int .u64 y)).cell? ⟨k, ox, none⟩ = some (.int .u64 z) := fun _ => cz
        have fz2 : ∀ q : Nat, ((w5.drewN q).setCell ⟨k, ix, none⟩ (.int .u64 y)).frozen? ⟨k, ox, none⟩ = false := fun _ => fz
        go_wp2_with fail
        go_region
        all_goals go_wp2_with fail
        go_roundw
        case rel => exact ⟨t + 1, xorNext r, swp dk ix ox, (by have := HIx.out; congr 1; omega), by omega, by rw [size_swp]; exact hsk, (by
  have := HR5.out.swap (i := ix) (j := ox) (by omega) (by omega)
  rw [← Gx.out, ← Gy.out] at this
  exact this), (((HB5.out.other (i := ix) hne).other (i := ox) hne)), (keep_swap HK5.out _ _ _ _).drew, (by rw [← HO.out, HBs.out])⟩
        case measure => (simp [intOf]; try omega)
    · have hc : ¬ ((ix : Int) ≤ (a : Int) + (q : Int) * 2 + 1) := by omega
      have ht3' : t = 3 := by omega
      clear hix
      go_wp2_with fail
      go_end0
      refine ⟨rfl, ?_, HK.out⟩
      have : breakPatterns d a b = dk := by rw [HBP.out, ← HO.out, ht3']; rfl
      rw [this]; exact HR.out
end Go.Proofs.Ytjdjfhioobhcjaa
