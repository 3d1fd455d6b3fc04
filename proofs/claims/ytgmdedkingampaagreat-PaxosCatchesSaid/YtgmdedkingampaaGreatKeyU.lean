/-
  What an iterator gives, collected and sorted: numbers of 64 bits without sign.
-/
import Derived.Test.YtgmdedkingampaaGreatKeyB
import Derived.Test.YtgmdedkingampaaGreatSrtB
import Derived.Shelf.SlIter.Collect
set_option linter.unusedVariables false
set_option linter.unusedSimpArgs false
namespace Go.Proofs.YtgmdedkingampaaGreat
open Go.RowKit Go.Shelf Go.Maps

attribute [local go_sem] Oper.semAt_some

theorem Tryz.u64Info : (Tryz.prog.info? 39).map (fun i => (i.zero, i.size, i.bytes)) = some (some (.int .u64 0), 1, 8) := by kernel_rfl

set_option maxRecDepth 100000 in
set_option maxHeartbeats 2000000 in
theorem appendU_in (F : Fence) (n : Nat) (h3 : F.fn 131) (hro : F.round = none) (hn : 2 ≤ n) (g : Nat) (lb : Array Value) (hFg : F.fn g) (eg : ∀ args w, (callFunc g args).run Tryz.prog w = .ok (.enter g args) w)
    (S : List Int → Prop) (N : Nat) (hN : N ≤ 1000000) (w : World) (hseq : SeqStopsK F (n - 1) Tryz.prog g lb (fun x : Int => #[Value.int .u64 x]) KeepsWalks S (fun _ => True) N w) :
    CallsIn F n Tryz.prog 131 #[.slice none 0 0, .func (.func g) #[] lb] w fun e W' => ∃ v ss, e = .returned v ∧ S ss ∧ W'.ownsRow w.heap.size 39 1 v ss.length (u64s ss) ∧ Below w.heap.size w W' := by
  have h1 : 1 ≤ n := by omega
  obtain ⟨i0, hi, hz0, hz1, hz2⟩ := info_parts Tryz.u64Info
  refine callsIn_of_wp_marks Tryz.func131 rfl h3 ?_ hro
  simp only [Tryz.ntmps131, List.size_toArray, List.length_cons, List.length_nil, Nat.reduceAdd, Nat.reduceSub, Array.replicate_succ, Array.replicate_zero, List.push_toArray, List.append_toArray, List.nil_append, List.cons_append]
  gi_wp2
  have bO := Boxed.new w 40 (.slice none 0 0)
  have hB0 : Below w.heap.size w (w.alloc (.cells #[.slice none 0 0] 40)) := (Below.refl _ w).alloc (Nat.le_refl _) _
  have hS1 : (w.alloc (.cells #[.slice none 0 0] 40)).heap.size = w.heap.size + 1 := by simp
  generalize w.alloc (.cells #[.slice none 0 0] 40) = w3 at *
  refine wpIn_rangeFunc_ownG hro h1 (gf := g) (lb := lb) rfl hFg eg hseq
    (fun a b => walksK_t a b) (fun W l o o' hl hlo h4 h5 => walksK_b (w := w3) W l o o' hl hlo h4 h5) hB0 (fun _ => rfl)
    (fun pre W => (∃ v, Boxed W w.heap.size 40 v ∧ W.ownsRow w.heap.size 39 1 v pre.length (u64s pre) ∧ True) ∧ Below w.heap.size w W)
    (fun _ _ _ => False)
    (OwnFrom.and (Own.from (holdsRow_own w.heap.size w.heap.size 40 39 1 (fun pre => pre.length) (fun pre => u64s pre) (fun _ _ => True)) _) (ownFrom_below (Nat.le_refl _) (by omega)))
    (fun c => fun _ _ _ _ h _ _ => h)
    ⟨⟨_, bO, World.ownsRow_nil _ _ _ _, trivial⟩, hB0⟩
    (fun x => { tmps := #[.slice none 0 0, .func (.func g) #[] lb, .pointer (some ⟨w.heap.size, 0, none⟩), undef, .slice none 0 0, .int .u64 x, .func (.func g) #[] lb, .int .u64 x, undef, undef, undef, undef, undef], defers := [] }) ?assign ?body ?done ?stop
  case assign =>
    intro l x W K hK
    gi_wp2
    exact hK
  case body =>
    rintro l pre x W ⟨⟨v, hv, hrow, _⟩, hB⟩ hlt
    have hc := hv.cell
    have HC := Lib.hid hrow
    have HV := Lib.hid hv
    have HB := Lib.hid hB
    have hrv := hv.not_row (by decide) hrow
    have hkw : ∀ w1, (W.alloc (.cells #[.int .u64 x] 39)).grownBy w1 v.ownBlock → ∀ u, KeepsWalks W (w1.setCell ⟨w.heap.size, 0, none⟩ u) := fun w1 hg u =>
      ((KeepsWalks.alloc W _).trans (KeepsWalks.of_grownBy hg (Go.Proofs.ownsRow_not_walk_a (HC.out.alloc _)))).trans (KeepsWalks.setCell _ _ _)
    have HKW := Lib.hid hkw
    clear hrow hv hkw
    gi_wp2_with (gi_at_builtin; refine wpListIn_append_own _ rfl _ _ 40 rfl w.heap.size 39 i0 (.int .u64 0) 1 8 Tryz.underlying40 hi hz0 hz1 hz2 rfl (by decide) _ _ _ rfl (HC.out.alloc _) ⟨W.heap.size, 0, none⟩ 1 1 [.int .u64 x] rfl rfl (cell_one_new _ _ _) (by simp [Value.oneCell']) (by unfold maxLen; omega) (by omega) (by have := hB.size; simp; omega) ?_; intro v' w1 hown' hgrow _; obtain ⟨g', cap', rfl⟩ := ownsRow_succ hown'; obtain ⟨hv1, hv2, hr2, hk2, hb2⟩ := HV.out.appended (by decide) HC.out hB.size (Nat.le_refl _) hown' hgrow; have hc1 := hv1.cell; have hf1 := hv1.frozen; have hk7 := HKW.out w1 hgrow (.slice (some ⟨g', 0, none⟩) (pre.length + 1) cap'))
    exact ⟨hk2.from _, hk7, ⟨_, hv2, by simpa using hr2, trivial⟩, hB.trans hb2⟩
  case done =>
    rintro D ys W hD hS ⟨⟨v, hv, hrow, _⟩, hB⟩ hK
    have hc := hv.cell
    gi_wp2
    refine ⟨by simp, .inl ⟨_, _, rfl, run_takeDeferred hK, ?_⟩⟩
    refine ⟨_, results_tmp rfl _ _ _, v, ys, rfl, hS, ?_, hB.trans (belowK_b (w := w3) (n₀ := w.heap.size) (by omega) W D _ _ (by omega) hK rfl rfl)⟩
    exact ownsRow_putObj hrow _ hK rfl
  case stop =>
    rintro D c pre W hD hp h hK
    exact h.elim

theorem appendU_any (g : Nat) (lb : Array Value) (eg : ∀ args w, (callFunc g args).run Tryz.prog w = .ok (.enter g args) w)
    (S : List Int → Prop) (N : Nat) (hN : N ≤ 1000000) (w : World) (hseq : SeqStopsK Fence.wide 1 Tryz.prog g lb (fun x : Int => #[Value.int .u64 x]) KeepsWalks S (fun _ => True) N w) :
    Calls Tryz.prog 131 #[.slice none 0 0, .func (.func g) #[] lb] w fun e W' => ∃ v ss, e = .returned v ∧ S ss ∧ W'.ownsRow w.heap.size 39 1 v ss.length (u64s ss) ∧ Below w.heap.size w W' :=
  callsIn_wide.1 (appendU_in Fence.wide 2 trivial rfl (Nat.le_refl _) g lb trivial eg S N hN w hseq)
theorem collectU_any (g : Nat) (lb : Array Value) (eg : ∀ args w, (callFunc g args).run Tryz.prog w = .ok (.enter g args) w)
    (S : List Int → Prop) (N : Nat) (hN : N ≤ 1000000) (w : World) (hseq : SeqStopsK Fence.wide 1 Tryz.prog g lb (fun x : Int => #[Value.int .u64 x]) KeepsWalks S (fun _ => True) N w) :
    Calls Tryz.prog 110 #[.func (.func g) #[] lb] w fun e W' => ∃ v ss, e = .returned v ∧ S ss ∧ W'.ownsRow w.heap.size 39 1 v ss.length (u64s ss) ∧ Below w.heap.size w W' := by
  have HA := Lib.hid (appendU_any g lb eg S N hN w hseq)
  clear hseq
  go_enter Tryz.func110, Tryz.ntmps110
  go_wp2_with fail
  refine HA.out.mono ?_
  rintro e W ⟨v, ss, rfl, hS, hrow, hb⟩
  have HS := Lib.hid hS
  have HR := Lib.hid hrow
  have HB := Lib.hid hb
  obtain ⟨ao, c, rfl, _, _⟩ := own_slice hrow
  clear hS hrow hb
  go_wp2_with fail
  go_ret
  exact ⟨_, ss, rfl, HS.out, HR.out, HB.out⟩
/-- slices.Sorted, of whatever iterator that gives few. -/
theorem sortedU_any (g : Nat) (lb : Array Value) (eg : ∀ args w, (callFunc g args).run Tryz.prog w = .ok (.enter g args) w)
    (S : List Int → Prop) (N : Nat) (hN : N ≤ 1000000) (hS50 : ∀ ss, S ss → ss.length < 1000000) (w : World) (hseq : SeqStopsK Fence.wide 1 Tryz.prog g lb (fun x : Int => #[Value.int .u64 x]) KeepsWalks S (fun _ => True) N w) :
    Calls Tryz.prog 77 #[.func (.func g) #[] lb] w fun e W' => ∃ v ss, e = .returned v ∧ S ss ∧ W'.ownsRow w.heap.size 39 1 v ss.length (u64s (ss.mergeSort (fun x y => decide (x ≤ y)))) ∧ Below w.heap.size w W' := by
  have HA := Lib.hid (collectU_any g lb eg S N hN w hseq)
  have H50 := Lib.hid hS50
  clear hseq hS50
  go_enter Tryz.func77, Tryz.ntmps77
  go_wp2_with fail
  refine HA.out.mono ?_
  rintro e W ⟨v, ss, rfl, hS, hrow, hb⟩
  have HS := Lib.hid hS
  have HR := Lib.hid hrow
  have HB := Lib.hid hb
  rcases hrow.2 with ⟨rfl, hz⟩ | ⟨gb, cap, cur, rfl, hbase, _⟩
  · have hss : ss = [] := List.eq_nil_of_length_eq_zero hz
    subst hss
    clear hrow hb hS
    go_wp2_with fail
    refine (sort_nil none 0 W).mono ?_
    rintro e w' ⟨rfl, rfl⟩
    go_wp2_with fail
    go_ret
    exact ⟨_, [], rfl, HS.out, by simpa using HR.out, HB.out⟩
  · have HSo := Lib.hid (sort_u hrow (H50.out ss hS))
    clear hrow hb hS
    go_wp2_with fail
    refine HSo.out.mono ?_
    rintro e w' ⟨rfl, hown, hk⟩
    have HO := Lib.hid hown
    have HK := Lib.hid hk
    clear hown hk
    go_wp2_with fail
    go_ret
    exact ⟨_, ss, rfl, HS.out, HO.out, HB.out.trans (HK.out.below HB.out.size (fun k e => by subst e; exact hbase))⟩
/-- The keys of a map, each once, rising. -/
def SortedKeys (f : Lit → Option Value) (ks : List Int) : Prop := ks.Pairwise (· < ·) ∧ ∀ x, x ∈ ks ↔ (f (.int .u64 x)).isSome = true
theorem AllKeys.sorted {f : Lit → Option Value} {ss : List Int} (h : AllKeys f ss) : SortedKeys f (ss.mergeSort (fun x y => decide (x ≤ y))) := by
  have hp := List.mergeSort_perm ss (fun x y => decide (x ≤ y))
  have hs : (ss.mergeSort (fun x y => decide (x ≤ y))).Pairwise (fun a b => decide (a ≤ b) = true) := List.pairwise_mergeSort (fun a b c h1 h2 => by simp only [decide_eq_true_eq] at *; omega) (fun a b => by simp only [Bool.or_eq_true, decide_eq_true_eq]; omega) ss
  refine ⟨?_, fun x => by rw [hp.mem_iff]; exact h.2 x⟩
  have hn : (ss.mergeSort (fun x y => decide (x ≤ y))).Nodup := hp.nodup_iff.2 h.1
  exact (hs.and hn).imp (fun {a b} ⟨h1, h2⟩ => by simp only [decide_eq_true_eq] at h1; have : a ≠ b := h2; omega)
end Go.Proofs.YtgmdedkingampaaGreat
