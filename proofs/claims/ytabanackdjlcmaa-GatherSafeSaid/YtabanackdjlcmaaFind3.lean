/-
  Contracts of package fold: Find.
-/
import Derived.Test.YtabanackdjlcmaaFind2
import Derived.Test.YtabanackdjlcmaaFold2
import Derived.Test.YtabanackdjlcmaaLib7
namespace Go.Proofs.Ytabanackdjlcmaa
open Go.ChangeShapes Go.WideShapes Go.ChangeAt Go.RowKit Go.Maps
set_option maxRecDepth 100000

theorem find_trimmed {D : Nat → Prop} {w : World} {b0 bs bt N : Nat} {lv : Value} {F : FS} (h : FoldR w D b0 bs bt N lv F) {pos : Int} (hp : pos < F.low) :
    Calls Try.prog 27 #[.pointer (some ⟨b0, 0, none⟩), .int .u64 pos] w fun e w' => e = .returned (.tuple #[.int .i64 0, .int .i64 0, .int .u64 0, .int .i64 35]) ∧ w = w' := by
  obtain ⟨c0, c1, c2, c3, c4, _⟩ := h.cell
  clear h
  go_enter Try.func27, Try.ntmps27
  go_wp2
  go_returns
  exact ⟨rfl, rfl⟩
theorem find_later {D : Nat → Prop} {w : World} {b0 bs bt N : Nat} {lv : Value} {F : FS} (h : FoldR w D b0 bs bt N lv F) {pos : Int} (hp : F.n ≤ pos) :
    Calls Try.prog 27 #[.pointer (some ⟨b0, 0, none⟩), .int .u64 pos] w fun e w' => e = .returned (.tuple #[.int .i64 0, .int .i64 0, .int .u64 0, .int .i64 36]) ∧ w = w' := by
  obtain ⟨c0, c1, c2, c3, c4, _⟩ := h.cell
  have hl : F.low ≤ pos := by have := h.num; omega
  clear h
  go_enter Try.func27, Try.ntmps27
  go_wp2
  go_returns
  exact ⟨rfl, rfl⟩
set_option maxHeartbeats 1000000 in
theorem find_ok {D : Nat → Prop} {w : World} {b0 bs bt N : Nat} {lv : Value} {F : FS} (h : FoldR w D b0 bs bt N lv F) {pos : Int} (hp0 : F.low ≤ pos) (hp1 : pos < F.n) (hl : F.l.length ≤ 1000000)
    (hsort : ∀ (a b : Nat) (p q : Sp), a < b → F.l[a]? = some p → F.l[b]? = some q → p.pos < q.pos) {k : Nat} {s : Sp} (hk : F.l[k]? = some s) (hs1 : s.pos ≤ pos) (hs2 : ∀ (j : Nat) (x : Sp), k < j → F.l[j]? = some x → pos < x.pos) (hs3 : 0 ≤ s.off ∧ 0 ≤ s.pos ∧ s.off + pos ≤ 18446744073709551615) :
    Calls Try.prog 27 #[.pointer (some ⟨b0, 0, none⟩), .int .u64 pos] w fun e w' => e = .returned (.tuple #[.int .i64 s.shard, .int .i64 s.seg, .int .u64 (s.off + pos - s.pos), .int .i64 0]) ∧ Below w.heap.size w w' := by
  obtain ⟨c0, c1, c2, c3, c4, _⟩ := h.cell
  have hsp := SpL.of_own h.own
  have HSp := Lib.hid hsp
  obtain ⟨ao, c, hlv, hc1, hc2⟩ := (show ∃ ao c, lv = .slice ao F.l.length c ∧ F.l.length ≤ c ∧ c ≤ 9223372036854775807 from own_form h.own)
  subst hlv
  have hse := search_any (pos := pos) hsp hl (fun a b p q hab ha hb => by
    by_cases e : a = b
    · subst e; rw [ha] at hb; cases hb; exact Int.le_refl _
    · have := hsort a b p q (by omega) ha hb; omega)
  have HSe := Lib.hid hse
  have HSort := Lib.hid hsort
  have HK := Lib.hid hk
  have HS2 := Lib.hid hs2
  clear h hsp hse hsort hk hs2
  go_enter Try.func27, Try.ntmps27
  go_wp2_with fail
  refine HSe.out.mono ?_
  rintro e w2 ⟨i, b, rfl, hi, hlo, hhi, hb, hbw⟩
  have hki : (b = true ∧ i = k) ∨ (b = false ∧ i = k + 1) := by
    cases b with
    | true =>
      left
      obtain ⟨x, hx, hxp⟩ := hb.1 rfl
      refine ⟨rfl, ?_⟩
      rcases Nat.lt_trichotomy i k with h1 | h1 | h1
      · have := HSort.out i k x s h1 hx HK.out; omega
      · exact h1
      · have := HS2.out i x h1 hx; omega
    | false =>
      right
      refine ⟨rfl, ?_⟩
      rcases Nat.lt_trichotomy i (k + 1) with h1 | h1 | h1
      · exfalso
        have hkl := (List.getElem?_eq_some_iff.1 HK.out).1
        have h2 := hhi k s (by omega) HK.out
        have hil : i < F.l.length := by omega
        have h3 := hhi i _ (Nat.le_refl _) (List.getElem?_eq_getElem hil)
        by_cases e : i = k
        · subst e
          have := hb.2 ⟨s, HK.out, by omega⟩
          cases this
        · have := HSort.out i k _ s (by omega) (List.getElem?_eq_getElem hil) HK.out; omega
      · exact h1
      · exfalso
        have hil : k + 1 < F.l.length := by omega
        have h4 := hlo (k + 1) _ h1 (List.getElem?_eq_getElem hil)
        have h5 := HS2.out (k + 1) _ (by omega) (List.getElem?_eq_getElem hil)
        omega
  have hkl := (List.getElem?_eq_some_iff.1 HK.out).1
  have hki' : (k : Int) < (F.l.length : Int) := by omega
  have d0 := (hbw.cell (World.block_lt_of_cell? w _ c1)).trans c1
  obtain ⟨ad, rfl, q0, q1, q2, q3, q4⟩ := (HSp.out.below hbw (Nat.le_refl _)).at k s HK.out
  have HB := Lib.hid hbw
  have e1 : IntKind.i64.wrap (k : Int) = k := IntWalk.i64_in _ (by omega)
  have e2 : (k : Int) + 1 - 1 = k := by omega
  obtain ⟨f1, f2, f3⟩ := hs3
  have f4 : IntKind.u64.wrap (s.off + pos) = s.off + pos := IntWalk.u64_in _ (by have := HK.out; omega)
  have f5 : IntKind.u64.wrap (s.off + pos - s.pos) = s.off + pos - s.pos := IntWalk.u64_in _ (by omega)
  have f6 : s.pos ≤ s.off + pos := by omega
  clear hlo hhi hb hbw
  rcases hki with ⟨rfl, rfl⟩ | ⟨rfl, rfl⟩
  all_goals
    go_wp2_with fail
    go_quiet (fail)
    go_wp2
    (try simp only [Exit.inBlock, Exit.then])
    refine bodyPost_ret (v := .tuple #[.int .i64 s.shard, .int .i64 s.seg, .int .u64 (s.off + pos - s.pos), .int .i64 0]) (by simp [results, Try.results27, go_sem]) rfl ?_
    exact ⟨rfl, below_drewN (HB.out.trans (((Below.refl _ _).alloc (Nat.le_refl _) _).mono HB.out.size)) _⟩
end Go.Proofs.Ytabanackdjlcmaa
