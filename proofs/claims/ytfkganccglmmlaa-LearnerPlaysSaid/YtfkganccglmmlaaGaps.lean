/-
  Contracts of package learner: Gaps, a loop over an iterator that a call has made.
-/
import Derived.RangeFuncNested
import Derived.RangeFuncBound
import Derived.RangeFuncCalls
import Derived.RangeFuncLeaves
import Derived.RangeFuncBox
import Derived.Shelf.Abstract
import Derived.Shelf.RegionOpen
import Derived.OwnWalkIn
import Derived.TacticsInMore
import Derived.LoopNIn
import Derived.LoopIn
import Derived.Maps.AppendAt
import Derived.Test.YtfkganccglmmlaaLrn4
namespace Go.Proofs.Ytfkganccglmmlaa
open Go.RowKit Go.Shelf Go.Maps

attribute [local go_sem] Oper.semAt_some

def Marked (p : Prop) : Prop := p
theorem mark {p : Prop} (h : Marked p) : p := h
/-- The slots from one on, so many of them, that aren't known. -/
def unk (m : Kn) (next : Int) (d : Nat) : List Int := ((List.range d).map fun i : Nat => next + i).filter fun j => (m j).isNone
theorem unk_zero (m : Kn) (next : Int) : unk m next 0 = [] := rfl
theorem unk_hit {m : Kn} {next : Int} {d : Nat} (h : m (next + d) = none) : unk m next (d + 1) = unk m next d ++ [next + d] := by
  simp [unk, List.range_succ, h]
theorem unk_miss {m : Kn} {next : Int} {d : Nat} {xs : List Int} (h : m (next + d) = some xs) : unk m next (d + 1) = unk m next d := by
  simp [unk, List.range_succ, h]
theorem unk_len (m : Kn) (next : Int) (d : Nat) : (unk m next d).length ≤ d := by
  unfold unk
  refine Nat.le_trans (List.length_filter_le _ _) ?_
  simp
theorem unk_prefix (m : Kn) (next : Int) {d k : Nat} (h : d ≤ k) : unk m next d <+: unk m next k := by
  obtain ⟨e, rfl⟩ := Nat.exists_eq_add_of_le h
  clear h
  induction e with
  | zero => exact List.prefix_refl _
  | succ e ih =>
    cases hm : m (next + ((d + e : Nat) : Int)) with
    | none =>
      have := unk_hit hm
      rw [show d + (e + 1) = d + e + 1 from rfl, this]
      exact List.IsPrefix.trans ih ⟨_, rfl⟩
    | some xs =>
      have := unk_miss hm
      rw [show d + (e + 1) = d + e + 1 from rfl, this]
      exact ih

set_option maxRecDepth 100000 in
set_option maxHeartbeats 2000000 in
/-- What the iterator does, for every body that keeps what the learner is of. -/
theorem gaps1_in (F : Fence) (n : Nat) (hf : F.fn 24) (hro : F.round = none) (hn : 1 ≤ n) (l Bn : Nat) {w : World} {b0 bm nm : Nat} {m : Kn} {next top : Int} (h : LearnerR w b0 bm nm m next top)
    (S : Nat → Prop) (hS : ∀ k, S k → w.heap.size ≤ k) (hB : ¬ S Bn) (hb0 : ¬ S b0) (hbm : ¬ S bm) (J Jx : List Int → World → Prop)
    (hY : ∀ pre x W, J pre W → pre.length < (top - next).toNat → YieldAt F (n - 1) Try.prog l #[.int .u64 x] W fun e W' =>
      (e = .returned (.bool true) ∧ J (pre ++ [x]) W' ∧ Keep S W W') ∨ (e = .returned (.bool false) ∧ Jx (pre ++ [x]) W'))
    (W : World) (hk : Keep S w W) (hBn : W.cell? ⟨Bn, 0, none⟩ = some (.pointer (some ⟨b0, 0, none⟩))) (h0 : J [] W) :
    CallsIn F n Try.prog 24 #[.func (.yield l) #[] #[], .pointer (some ⟨Bn, 0, none⟩)] W fun e W' => (∃ v, e = .returned v) ∧
      ((∃ ys, ys = unk m next (top - next).toNat ∧ J ys W') ∨ (∃ pre, pre <+: unk m next (top - next).toNat ∧ Jx pre W')) := by
  have H := Lib.hid h
  obtain ⟨c0, c1, c2, _, _⟩ := (h.keep hk hb0 hbm hS).cells.cell0
  have hnt := next_le_top h.next h.top
  have hn0 := h.next.1
  have ht0 := h.top.2.1
  have HY := Lib.hid hY
  have HK := Lib.hid hk
  have HBn := Lib.hid hBn
  have HS := Lib.hid hS
  have H0 := Lib.hid h0
  clear h hY hk hS h0
  refine callsIn_of_wp Try.func24 rfl hf ?_ hro
  simp only [Try.ntmps24, List.size_toArray, List.length_cons, List.length_nil, Nat.reduceAdd, Nat.reduceSub, Array.replicate_succ, Array.replicate_zero, List.push_toArray, List.append_toArray, List.nil_append, List.cons_append]
  gi_wp2
  clear hBn c0 c1 c2
  gi_loopw [3, 4, 5] (fun p _ _ wr => ∃ d : Nat, p = .int .u64 (next + d) ∧ next + d ≤ top ∧ J (unk m next d) wr ∧ Keep S W wr)
    (fun p _ _ _ => (top - intOf p).toNat)
  case atStart => exact ⟨0, by simp, by simpa using hnt, H0.out, Keep.refl _ _⟩
  case round =>
    obtain ⟨d, rfl, hd, hJ, hkw⟩ := hrel
    have hBc := hkw.cell HBn.out hB
    have hLR := H.out.keep (HK.out.trans hkw) hb0 hbm HS.out
    obtain ⟨c0, _, c2, _, _⟩ := hLR.cells.cell0
    obtain ⟨_, ⟨f, hfm, hvals⟩, hsm⟩ := hLR.map
    have hlk := look_two hfm (by omega : 0 ≤ next + d) (by omega : next + d ≤ 18446744073709551615)
    have hval := hvals (next + d) (by omega) (by omega)
    have HJ := Lib.hid hJ
    have HKw := Lib.hid hkw
    clear hJ hkw hLR hfm hvals hsm
    by_cases hlt : next + d < top
    · cases hms : m (next + d) with
      | none =>
        rw [hms] at hval
        simp only [LVal] at hval
        rw [hval] at hlk
        have hm1 := Lib.hid (unk_hit hms)
        simp only [lookV, Option.getD_none, Option.isSome_none] at hlk
        obtain ⟨fn, tmps, assign, body, hy, hR⟩ := HY.out _ (next + d) wr HJ.out (by have := unk_len m next d; omega)
        have hR := Lib.hid hR
        clear hval hms
        gi_wp2
        refine hR.out.mono ?_
        rintro e W3 (⟨rfl, hJ3, hk3⟩ | ⟨rfl, hJx3⟩)
        · have hJ3 := Lib.hid hJ3
          have hk3 := Lib.hid hk3
          gi_wp2
          go_roundw
          case rel => exact ⟨d + 1, by simp; omega, by omega, by rw [hm1.out]; exact hJ3.out, HKw.out.trans hk3.out⟩
          case measure => simp [intOf]; omega
        · have hJx3 := Lib.hid hJx3
          gi_wp2
          refine bodyPost_ret (results_none rfl _ _ _) rfl ?_
          exact ⟨⟨_, rfl⟩, .inr ⟨unk m next d ++ [next + d], by rw [← hm1.out]; exact unk_prefix m next (by omega), hJx3.out⟩⟩
      | some xs =>
        rw [hms] at hval
        obtain ⟨a, cd, e1, _⟩ := hval
        rw [e1] at hlk
        have hm1 := Lib.hid (unk_miss hms)
        simp only [lookV, Option.getD_some, Option.isSome_some] at hlk
        clear hms e1
        gi_wp2
        refine ⟨(fun _ h => by cases h), ?_⟩
        gi_wp2
        go_roundw
        case rel => exact ⟨d + 1, by simp; omega, by omega, by rw [hm1.out]; exact HJ.out, HKw.out⟩
        case measure => simp [intOf]; omega
    · have hdt : d = (top - next).toNat := by omega
      have hdt := Lib.hid hdt
      clear hval hlk
      gi_wp2
      go_end0
      first
        | (rw [← hdt.out]; exact ⟨⟨_, rfl⟩, .inl ⟨_, rfl, HJ.out⟩⟩)
        | (rw [← hdt.out]; exact ⟨⟨_, rfl⟩, .inl HJ.out⟩)

set_option maxHeartbeats 1000000 in
theorem gaps_in (F : Fence) (n : Nat) (hf : F.fn 22) (hro : F.round = none) (p0 : Option Addr) (w : World) :
    CallsIn F n Try.prog 22 #[.pointer p0] w fun e w' => e = .returned (.func (.func 24) #[] #[.pointer (some ⟨w.heap.size, 0, none⟩)]) ∧ w' = w.alloc (.cells #[.pointer p0] 25) := by
  refine callsIn_of_wp Try.func22 rfl hf ?_ hro
  simp only [Try.ntmps22, List.size_toArray, List.length_cons, List.length_nil, Nat.reduceAdd, Nat.reduceSub, Array.replicate_succ, Array.replicate_zero, List.push_toArray, List.append_toArray, List.nil_append, List.cons_append]
  gi_wp2
  go_ret
  exact ⟨rfl, rfl⟩

theorem gaps_stops (F : Fence) (n : Nat) (hf : F.fn 24) (hro : F.round = none) (hn : 1 ≤ n) (Bn : Nat) {w w1 : World} {b0 bm nm : Nat} {m : Kn} {next top : Int} (h : LearnerR w b0 bm nm m next top)
    (S : Nat → Prop) (hS : ∀ k, S k → w.heap.size ≤ k) (hB : ¬ S Bn) (hb0 : ¬ S b0) (hbm : ¬ S bm) (hk : Keep S w w1) (hBn : w1.cell? ⟨Bn, 0, none⟩ = some (.pointer (some ⟨b0, 0, none⟩))) :
    SeqStopsK F n Try.prog 24 #[.pointer (some ⟨Bn, 0, none⟩)] (fun x : Int => #[Value.int .u64 x]) (Keep S) (fun ys => ys = unk m next (top - next).toNat) (fun pre => pre <+: unk m next (top - next).toNat) (top - next).toNat w1 := fun l J Jx W hW _ _ hY h0 =>
  gaps1_in F n hf hro hn l Bn h S hS hB hb0 hbm J Jx hY W (hk.trans (Below.keep0 S hW)) ((hW.cell (p := ⟨Bn, 0, none⟩) (World.block_lt_of_cell? _ _ hBn)).trans hBn) h0

theorem Try.u64Info : (Try.prog.info? 29).map (fun i => (i.zero, i.size, i.bytes)) = some (some (.int .u64 0), 1, 8) := by kernel_rfl

set_option maxRecDepth 100000 in
set_option maxHeartbeats 2000000 in
theorem Gaps_in (F : Fence) (n : Nat) (h3 : F.fn 16) (h4 : F.fn 22) (h5 : F.fn 24) (hro : F.round = none) (hn : 3 ≤ n) {w : World} {b0 bm nm : Nat} {m : Kn} {next top : Int} (h : LearnerR w b0 bm nm m next top)
    (most : Int) (hm1 : 1 ≤ most) (hm2 : most ≤ 1048576) :
    CallsIn F n Try.prog 16 #[.pointer (some ⟨b0, 0, none⟩), .int .i64 most] w fun e W' => ∃ v, e = .returned v ∧ SlR W' v (u64s ((unk m next (top - next).toNat).take most.toNat)) ∧ Below w.heap.size w W' := by
  have h1 : 1 ≤ n := by omega
  obtain ⟨i0, hi, hz0, hz1, hz2⟩ := info_parts Try.u64Info
  have hd1 : decide (most < 1) = false := by simp; omega
  refine callsIn_of_wp_marks Try.func16 rfl h3 ?_ hro
  simp only [Try.ntmps16, List.size_toArray, List.length_cons, List.length_nil, Nat.reduceAdd, Nat.reduceSub, Array.replicate_succ, Array.replicate_zero, List.push_toArray, List.append_toArray, List.nil_append, List.cons_append]
  gi_wp2_with (gi_at_call 22; refine (gaps_in F (n - 1) h4 hro _ _).mono ?_; rintro e w' ⟨rfl, rfl⟩)
  obtain ⟨hS1, hS2, hS3⟩ : (w.alloc (.cells #[.int .i64 most] 3)).heap.size = w.heap.size + 1 ∧ ((w.alloc (.cells #[.int .i64 most] 3)).alloc (.cells #[.slice none 0 0] 22)).heap.size = w.heap.size + 2 ∧ (((w.alloc (.cells #[.int .i64 most] 3)).alloc (.cells #[.slice none 0 0] 22)).alloc (.cells #[.pointer (some ⟨b0, 0, none⟩)] 25)).heap.size = w.heap.size + 3 := by simp
  have bM := ((Boxed.new w 3 (.int .i64 most)).alloc (.cells #[.slice none 0 0] 22)).alloc (.cells #[.pointer (some ⟨b0, 0, none⟩)] 25)
  have bO := (Boxed.new (w.alloc (.cells #[.int .i64 most] 3)) 22 (.slice none 0 0)).alloc (.cells #[.pointer (some ⟨b0, 0, none⟩)] 25)
  have bN := Boxed.new ((w.alloc (.cells #[.int .i64 most] 3)).alloc (.cells #[.slice none 0 0] 22)) 25 (.pointer (some ⟨b0, 0, none⟩))
  rw [hS2] at bN
  rw [hS1] at bO
  have hB0 : Below w.heap.size w (((w.alloc (.cells #[.int .i64 most] 3)).alloc (.cells #[.slice none 0 0] 22)).alloc (.cells #[.pointer (some ⟨b0, 0, none⟩)] 25)) := (((Below.refl _ w).alloc (Nat.le_refl _) _).alloc (by simp) _).alloc (by simp; omega) _
  have hlt0 : b0 < w.heap.size := by have := h.cells; unfold LCells at this; exact (Array.getElem?_eq_some_iff.1 this).1
  have hltm : bm < w.heap.size := by obtain ⟨_, ⟨f, hf, _⟩, _⟩ := h.map; exact hf.lt
  generalize ((w.alloc (.cells #[.int .i64 most] 3)).alloc (.cells #[.slice none 0 0] 22)).alloc (.cells #[.pointer (some ⟨b0, 0, none⟩)] 25) = w3 at *
  refine wpIn_rangeFunc_ownG hro h1 (gf := 24) (lb := #[.pointer (some ⟨w.heap.size + 2, 0, none⟩)]) rfl h5 (enters_of Try.func24 (by kernel_rfl) rfl)
    (gaps_stops F (n - 1) h5 hro (by omega) (w.heap.size + 2) h (fun k => k = w.heap.size + 1 ∨ w.heap.size + 3 ≤ k) (fun k hk => by omega) (by omega) (by omega) (by omega) (Below.keep hB0 (fun k _ _ => by omega)) bN.cell)
    (fun a b => Keep.trans a b) (fun W l o o' hl hlo _ _ => Keep.grown (grownBy_putObj' W l o') (fun k e => by cases e; omega)) (Below.refl _ _) (fun _ => rfl)
    (fun pre W => ((∃ v, Boxed W (w.heap.size + 1) 22 v ∧ W.ownsRow w.heap.size 29 1 v pre.length (u64s pre) ∧ ((pre.length : Int) < most)) ∧ (Boxed W w.heap.size 3 (.int .i64 most) ∧ Boxed W (w.heap.size + 2) 25 (.pointer (some ⟨b0, 0, none⟩)))) ∧ Below w.heap.size w W)
    (fun c pre W => (∃ v, Boxed W (w.heap.size + 1) 22 v ∧ W.ownsRow w.heap.size 29 1 v pre.length (u64s pre) ∧ (c = .exit 0 ∧ (pre.length : Int) = most)) ∧ Below w.heap.size w W)
    (OwnFrom.and (OwnFrom.and (Own.from (holdsRow_own w.heap.size (w.heap.size + 1) 22 29 1 (fun pre => pre.length) (fun pre => u64s pre) (fun pre v => (pre.length : Int) < most)) _) (OwnFrom.and (Own.from (boxed_own w.heap.size 3 (fun _ => .int .i64 most)) _) (Own.from (boxed_own (w.heap.size + 2) 25 (fun _ => .pointer (some ⟨b0, 0, none⟩))) _))) (ownFrom_below (Nat.le_refl _) (by omega)))
    (fun c => OwnFrom.and (Own.from (holdsRow_own w.heap.size (w.heap.size + 1) 22 29 1 (fun pre => pre.length) (fun pre => u64s pre) (fun pre v => c = .exit 0 ∧ (pre.length : Int) = most)) _) (ownFrom_below (Nat.le_refl _) (by omega)))
    ⟨⟨⟨_, bO, World.ownsRow_nil _ _ _ _, by simp; omega⟩, bM, bN⟩, hB0⟩
    (fun x => { tmps := #[.pointer (some ⟨b0, 0, none⟩), .int .i64 most, undef, .pointer (some ⟨w.heap.size, 0, none⟩), .slice none 0 0, .pointer (some ⟨w.heap.size + 1, 0, none⟩), .int .u64 x, .pointer (some ⟨b0, 0, none⟩), .bool false, .bool false, .int .i64 most, .bool false, .bool false, .pointer (some ⟨b0, 0, none⟩),
      .func (.func 24) #[] #[.pointer (some ⟨w.heap.size + 1 + 1, 0, none⟩)], .int .u64 x, undef, undef, undef, undef, undef, undef, undef, undef, undef], defers := [] }) ?assign ?body ?done ?stop
  case assign =>
    intro l x W K hK
    gi_wp2
    exact hK
  case body =>
    rintro l pre x W ⟨⟨⟨v, hv, hrow, hlm⟩, hbm, hbn⟩, hB⟩ hlt
    have hc := hv.cell
    have hcm := hbm.cell
    have hrm := hbm.not_row (by decide) hrow
    have hrn := hbn.not_row (by decide) hrow
    have hrv := hv.not_row (by decide) hrow
    have HC := Lib.hid hrow
    have HV := Lib.hid hv
    have HM := Lib.hid hbm
    have HN := Lib.hid hbn
    have HB := Lib.hid hB
    have hkeep : ∀ w1, (W.alloc (.cells #[.int .u64 x] 29)).grownBy w1 v.ownBlock → ∀ u, Keep (fun k => k = w.heap.size + 1 ∨ w.heap.size + 3 ≤ k) W (w1.setCell ⟨w.heap.size + 1, 0, none⟩ u) ∧ w1.cell? ⟨w.heap.size, 0, none⟩ = some (.int .i64 most) ∧ Boxed (w1.setCell ⟨w.heap.size + 1, 0, none⟩ u) w.heap.size 3 (.int .i64 most) ∧ Boxed (w1.setCell ⟨w.heap.size + 1, 0, none⟩ u) (w.heap.size + 2) 25 (.pointer (some ⟨b0, 0, none⟩)) := by
      intro w1 hg u
      have hm1 := (HM.out.alloc (.cells #[.int .u64 x] 29)).kept hg hrm
      have hn1 := (HN.out.alloc (.cells #[.int .u64 x] 29)).kept hg hrn
      refine ⟨?_, hm1.cell, hm1.other (by omega) u, hn1.other (by omega) u⟩
      have h2 : Keep (fun k => k = w.heap.size + 1 ∨ w.heap.size + 3 ≤ k) W w1 := by
        refine ((Keep.refl _ W).alloc (.cells #[.int .u64 x] 29)).trans ⟨hg.os, hg.tape, hg.output, hg.size, fun k hk hn => ?_⟩
        refine hg.block k hk (fun e => ?_)
        have := (HC.out.lt k e.symm).1
        have h1 : k ≠ w.heap.size := fun e' => hrm (by rw [← e', e])
        have h2 : k ≠ w.heap.size + 2 := fun e' => hrn (by rw [← e', e])
        omega
      exact h2.setCell (Or.inl (Or.inl rfl)) u
    have HK := Lib.hid hkeep
    clear hkeep hrow hv hbm hbn
    by_cases hq : (pre.length : Int) + 1 = most
    · have hqb : ((pre.length : Int) + 1 == most) = true := by rw [beq_iff_eq]; exact hq
      have HQ := Lib.hid hq
      clear hq
      gi_wp2_with (gi_at_builtin; refine wpListIn_append_own _ rfl _ _ 22 rfl w.heap.size 29 i0 (.int .u64 0) 1 8 Try.underlying22 hi hz0 hz1 hz2 rfl (by decide) _ _ _ rfl (HC.out.alloc _) ⟨W.heap.size, 0, none⟩ 1 1 [.int .u64 x] rfl rfl (cell_one_new _ _ _) (by simp [Value.oneCell']) (by unfold maxLen; omega) (by omega) (by have := hB.size; simp; omega) ?_; intro v' w1 hown' hgrow _; obtain ⟨g', cap', rfl⟩ := ownsRow_succ hown'; obtain ⟨hv1, hv2, hr2, hk2, hb2⟩ := HV.out.appended (by decide) HC.out hB.size (by omega) hown' hgrow; have hc1 := hv1.cell; have hf1 := hv1.frozen; obtain ⟨hk3, hk4, hk5, hk6⟩ := HK.out w1 hgrow (.slice (some ⟨g', 0, none⟩) (pre.length + 1) cap'); have hk7 := hk5.cell; have hk8 := hv2.cell)
      exact ⟨hk2.from _, ⟨_, hv2, by simpa using hr2, rfl, by simpa using HQ.out⟩, hB.trans hb2⟩
    · have hqb : ((pre.length : Int) + 1 == most) = false := by rw [beq_eq_false_iff_ne]; exact hq
      have HQ := Lib.hid hq
      clear hq
      gi_wp2_with (gi_at_builtin; refine wpListIn_append_own _ rfl _ _ 22 rfl w.heap.size 29 i0 (.int .u64 0) 1 8 Try.underlying22 hi hz0 hz1 hz2 rfl (by decide) _ _ _ rfl (HC.out.alloc _) ⟨W.heap.size, 0, none⟩ 1 1 [.int .u64 x] rfl rfl (cell_one_new _ _ _) (by simp [Value.oneCell']) (by unfold maxLen; omega) (by omega) (by have := hB.size; simp; omega) ?_; intro v' w1 hown' hgrow _; obtain ⟨g', cap', rfl⟩ := ownsRow_succ hown'; obtain ⟨hv1, hv2, hr2, hk2, hb2⟩ := HV.out.appended (by decide) HC.out hB.size (by omega) hown' hgrow; have hc1 := hv1.cell; have hf1 := hv1.frozen; obtain ⟨hk3, hk4, hk5, hk6⟩ := HK.out w1 hgrow (.slice (some ⟨g', 0, none⟩) (pre.length + 1) cap'); have hk7 := hk5.cell; have hk8 := hv2.cell)
      have hq := HQ.out
      exact ⟨hk2.from _, hk3, ⟨⟨_, hv2, by simpa using hr2, by simp; omega⟩, hk5, hk6⟩, hB.trans hb2⟩
  case done =>
    rintro D ys W hD rfl ⟨⟨⟨v, hv, hrow, hlm⟩, hbm⟩, hB⟩ hK
    have hc := hv.cell
    gi_wp2
    refine ⟨by simp, .inl ⟨_, _, rfl, run_takeDeferred hK, ?_⟩⟩
    refine ⟨_, results_tmp rfl _ _ _, v, rfl, ?_, hB.trans (belowK_b (w := w) (Nat.le_refl _) W D _ _ (by omega) hK rfl rfl)⟩
    rw [List.take_of_length_le (by omega)]
    exact SlR.of_own (ownsRow_putObj hrow _ hK rfl)
  case stop =>
    rintro D c pre W hD hp ⟨⟨v, hv, hrow, rfl, hlm⟩, hB⟩ hK
    have hc := hv.cell
    gi_wp2
    refine ⟨by simp, .inl ⟨_, _, rfl, run_takeDeferred hK, ?_⟩⟩
    refine ⟨_, results_tmp rfl _ _ _, v, rfl, ?_, hB.trans (belowK_b (w := w) (Nat.le_refl _) W D _ _ (by omega) hK rfl rfl)⟩
    have e : (unk m next (top - next).toNat).take most.toNat = pre := by
      obtain ⟨t, ht⟩ := hp
      rw [← ht, show most.toNat = pre.length by omega]
      simp
    rw [e]
    exact SlR.of_own (ownsRow_putObj hrow _ hK rfl)

theorem gaps_any {w : World} {b0 bm nm : Nat} {m : Kn} {next top : Int} (h : LearnerR w b0 bm nm m next top) (most : Int) (hm1 : 1 ≤ most) (hm2 : most ≤ 1048576) :
    Calls Try.prog 16 #[.pointer (some ⟨b0, 0, none⟩), .int .i64 most] w fun e W' => ∃ v, e = .returned v ∧ SlR W' v (u64s ((unk m next (top - next).toNat).take most.toNat)) ∧ Below w.heap.size w W' :=
  callsIn_wide.1 (Gaps_in Fence.wide 3 trivial trivial trivial rfl (Nat.le_refl _) h most hm1 hm2)
theorem gaps_few (p0 : Option Addr) (most : Int) (hm1 : most < 1) (w : World) :
    Calls Try.prog 16 #[.pointer p0, .int .i64 most] w fun e W' => e = .returned (.slice none 0 0) ∧ Below w.heap.size w W' := by
  have hb : Below w.heap.size w (w.alloc (.cells #[.int .i64 most] 3)) := (Below.refl _ _).alloc (Nat.le_refl _) _
  have hb := Lib.hid hb
  cases p0
  · go_enter Try.func16, Try.ntmps16
    go_wp2
    go_ret
    exact ⟨rfl, hb.out⟩
  · go_enter Try.func16, Try.ntmps16
    go_wp2
    go_ret
    exact ⟨rfl, hb.out⟩
theorem gaps_nil (most : Int) (w : World) :
    Calls Try.prog 16 #[.pointer none, .int .i64 most] w fun e W' => e = .returned (.slice none 0 0) ∧ Below w.heap.size w W' := by
  have hb : Below w.heap.size w (w.alloc (.cells #[.int .i64 most] 3)) := (Below.refl _ _).alloc (Nat.le_refl _) _
  have hb := Lib.hid hb
  go_enter Try.func16, Try.ntmps16
  go_wp2
  go_ret
  exact ⟨rfl, hb.out⟩
end Go.Proofs.Ytfkganccglmmlaa
