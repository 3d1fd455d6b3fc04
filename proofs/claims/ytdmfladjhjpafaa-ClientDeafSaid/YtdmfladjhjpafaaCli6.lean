/-
  Package client: does a message tell a call's outcome?
-/
import Derived.Test.YtdmfladjhjpafaaCli5
namespace Go.Proofs.Ytdmfladjhjpafaa
open Go.ChangeShapes Go.WideShapes Go.ChangeAt Go.RowKit Go.Maps
set_option maxRecDepth 100000

def fitsB (x : Cl) (m : Ms) : Bool := if m.kind = 2 then x.op == 1 && m.sh == x.sh && m.sg == x.sg else if m.kind = 15 then x.op == 2 && m.pos == x.pos else if m.kind = 17 then decide (2 < x.op) else false
theorem iKeyed : Keyed Try.prog 3 := int_keyed Try.underlying3
theorem i_key {a : Int} (h : -9223372036854775808 ≤ a ∧ a ≤ 9223372036854775807) : keyOf Try.prog 3 (.int .i64 a) = some (.int .i64 a) :=
  keyOf_int_mk Try.underlying3 (by obtain ⟨h1, h2⟩ := h; simp [Lit.wf, IntKind.min, IntKind.max, IntKind.signed, IntKind.bits]; omega)
theorem zeroFn (w : World) : (zeroValue 23).run Try.prog w = .ok .nilFunc w := by kernel_rfl
theorem fn_ne (g : Nat) (bs : Array Value) (w : World) : (binOp .neq 23 (.func (.func g) #[] bs) .nilFunc).run Try.prog w = .ok (.bool true) w := by kernel_rfl
theorem fn_ne0 (w : World) : (binOp .neq 23 .nilFunc .nilFunc).run Try.prog w = .ok (.bool false) w := by kernel_rfl
/-- The map of what fits: what it tells of a kind. -/
def fitF (p q : Nat) (k : Int) : Value := if k = 17 then .func (.func 29) #[] #[.pointer (some ⟨p, 0, none⟩)] else if k = 15 then .func (.func 28) #[] #[.pointer (some ⟨p, 0, none⟩), .pointer (some ⟨q, 0, none⟩)] else if k = 2 then .func (.func 27) #[] #[.pointer (some ⟨p, 0, none⟩), .pointer (some ⟨q, 0, none⟩)] else .nilFunc
theorem fits_facts {w w1 w2 w3 : World} {x : Cl} {m : Ms} {sv vv bv v7 v8 v9 : Value} (hk : -9223372036854775808 ≤ m.kind ∧ m.kind ≤ 9223372036854775807)
    (hg1 : (((w.alloc (.cells (clC x sv) 35)).alloc (.cells (msC m vv bv) 39)).alloc (.map #[] 0)).grownBy w1 (some (w.heap.size + 2))) (hg2 : w1.grownBy w2 (some (w.heap.size + 2))) (hg3 : w2.grownBy w3 (some (w.heap.size + 2)))
    (hm3 : MapR w3 Try.prog 3 (w.heap.size + 2) 3 (putF (putF (putF (fun _ => none) (.int .i64 2) v7) (.int .i64 15) v8) (.int .i64 17) v9)) :
    w3.heap[w.heap.size]? = some (.cells (clC x sv) 35 (0, 0)) ∧ w3.heap[w.heap.size + 1]? = some (.cells (msC m vv bv) 39 (0, 0)) ∧ Below w.heap.size w w3 ∧
    (Instr.lookup 76 (.map (some (w.heap.size + 2))) (.int .i64 m.kind) false).run Try.prog w3 = .ok (if m.kind = 17 then v9 else if m.kind = 15 then v8 else if m.kind = 2 then v7 else .nilFunc) w3 := by
  have hz1 : (w.alloc (.cells (clC x sv) 35)).heap.size = w.heap.size + 1 := by simp
  have hz2 : ((w.alloc (.cells (clC x sv) 35)).alloc (.cells (msC m vv bv) 39)).heap.size = w.heap.size + 2 := by simp
  have hz3 : (((w.alloc (.cells (clC x sv) 35)).alloc (.cells (msC m vv bv) 39)).alloc (.map #[] 0)).heap.size = w.heap.size + 3 := by simp
  have k3 : Keep (fun k => k = w.heap.size + 2) (((w.alloc (.cells (clC x sv) 35)).alloc (.cells (msC m vv bv) 39)).alloc (.map #[] 0)) w3 :=
    ((Keep.grown hg1 (fun k hk => by cases hk; rfl)).trans (Keep.grown hg2 (fun k hk => by cases hk; rfl))).trans (Keep.grown hg3 (fun k hk => by cases hk; rfl))
  have hb : Below w.heap.size w (((w.alloc (.cells (clC x sv) 35)).alloc (.cells (msC m vv bv) 39)).alloc (.map #[] 0)) := (((Below.refl _ _).alloc (Nat.le_refl _) _).alloc (by omega) _).alloc (by omega) _
  have h1 := heap_alloc_new w (.cells (clC x sv) 35)
  have h2 := heap_alloc_new (w.alloc (.cells (clC x sv) 35)) (.cells (msC m vv bv) 39)
  rw [hz1] at h2
  refine ⟨?_, ?_, hb.trans (k3.below (by omega) (fun k e => by omega)), ?_⟩
  · exact (k3.block _ (by omega) (by omega)).trans ((Below.heap_alloc _ _ _ (by omega)).trans ((Below.heap_alloc _ _ _ (by omega)).trans h1))
  · exact (k3.block _ (by omega) (by omega)).trans ((Below.heap_alloc _ _ _ (by omega)).trans h2)
  · rw [hm3.look iKeyed Try.underlying76 (zeroFn w3) (i_key hk), putF_int, putF_int, putF_int]
    by_cases e1 : m.kind = 17
    · rw [if_pos e1, if_pos e1]; rfl
    · rw [if_neg e1, if_neg e1]
      by_cases e2 : m.kind = 15
      · rw [if_pos e2, if_pos e2]; rfl
      · rw [if_neg e2, if_neg e2]
        by_cases e3 : m.kind = 2
        · rw [if_pos e3, if_pos e3]; rfl
        · rw [if_neg e3, if_neg e3]; rfl
set_option maxHeartbeats 2000000 in
theorem fits_two {w : World} {x : Cl} {m : Ms} {sv vv bv : Value} (hk : -9223372036854775808 ≤ m.kind ∧ m.kind ≤ 9223372036854775807) (hk2 : m.kind = 2) :
    Calls Try.prog 20 #[.agg (clC x sv), .agg (msC m vv bv)] w fun e w' => e = .returned (.bool (x.op == 1 && m.sh == x.sh && m.sg == x.sg)) ∧ Below w.heap.size w w' := by
  have HX := Lib.hid hk2
  clear hk2
  have hmm := @run_makeMap Try.prog
  have hm0 := MapR.made ((w.alloc (.cells (clC x sv) 35)).alloc (.cells (msC m vv bv) 39)) Try.prog 3
  have hz : ((w.alloc (.cells (clC x sv) 35)).alloc (.cells (msC m vv bv) 39)).heap.size = w.heap.size + 2 := by simp
  rw [hz] at hm0
  have HK := Lib.hid hk
  clear hk
  have hne := fun (g : Nat) (bs : Array Value) (w : World) => fn_ne g bs w
  go_enter Try.func20, Try.ntmps20
  go_wp2_with (first
    | (refine wpList_insertR rfl (.tmp 6) (.const (.int .i64 2)) (.tmp 7) 76 3 23 rfl iKeyed Try.underlying76 (w.heap.size + 2) 0 (by decide) rfl hm0 (.int .i64 2) (.func (.func 27) #[] #[.pointer (some ⟨w.heap.size, 0, none⟩), .pointer (some ⟨w.heap.size + 1, 0, none⟩)]) (.int .i64 2) rfl rfl (i_key (by decide)) (by trivial) ?_
       intro w1 hm1 hg1)
    | (refine wpList_insertR rfl (.tmp 6) (.const (.int .i64 15)) (.tmp 8) 76 3 23 rfl iKeyed Try.underlying76 (w.heap.size + 2) 1 (by decide) rfl hm1 (.int .i64 15) (.func (.func 28) #[] #[.pointer (some ⟨w.heap.size, 0, none⟩), .pointer (some ⟨w.heap.size + 1, 0, none⟩)]) (.int .i64 15) rfl rfl (i_key (by decide)) (by trivial) ?_
       intro w2 hm2 hg2)
    | (refine wpList_insertR rfl (.tmp 6) (.const (.int .i64 17)) (.tmp 9) 76 3 23 rfl iKeyed Try.underlying76 (w.heap.size + 2) 2 (by decide) rfl hm2 (.int .i64 17) (.func (.func 29) #[] #[.pointer (some ⟨w.heap.size, 0, none⟩)]) (.int .i64 17) rfl rfl (i_key (by decide)) (by trivial) ?_
       intro w3 hm3 hg3
       obtain ⟨hp3, hq3, hb3, hlk⟩ := fits_facts (m := m) HK.out hg1 hg2 hg3 hm3
       have d0 : w3.cell? ⟨w.heap.size + 1, 0, none⟩ = some (.int .i64 m.kind) := World.news_of_block hq3 0 _ rfl
       have HP3 := Lib.hid hp3
       have HQ3 := Lib.hid hq3
       have HB3 := Lib.hid hb3
       clear hp3 hq3 hb3 hm0 hm1 hm2 hm3 hg1 hg2 hg3
       have hn17 : m.kind ≠ 17 := by have := HX.out; omega
       have hn15 : m.kind ≠ 15 := by have := HX.out; omega
       have hk2 := HX.out
       rw [if_neg hn17, if_neg hn15, if_pos hk2] at hlk
       clear hn17 hn15 hk2)
    | fail)
  refine (fits1_any HP3.out HQ3.out).mono ?_
  rintro e w4 ⟨rfl, rfl⟩
  go_wp2_with fail
  go_ret
  exact ⟨rfl, HB3.out⟩
set_option maxHeartbeats 2000000 in
theorem fits_fif {w : World} {x : Cl} {m : Ms} {sv vv bv : Value} (hk : -9223372036854775808 ≤ m.kind ∧ m.kind ≤ 9223372036854775807) (hk15 : m.kind = 15) :
    Calls Try.prog 20 #[.agg (clC x sv), .agg (msC m vv bv)] w fun e w' => e = .returned (.bool (x.op == 2 && m.pos == x.pos)) ∧ Below w.heap.size w w' := by
  have HX := Lib.hid hk15
  clear hk15
  have hmm := @run_makeMap Try.prog
  have hm0 := MapR.made ((w.alloc (.cells (clC x sv) 35)).alloc (.cells (msC m vv bv) 39)) Try.prog 3
  have hz : ((w.alloc (.cells (clC x sv) 35)).alloc (.cells (msC m vv bv) 39)).heap.size = w.heap.size + 2 := by simp
  rw [hz] at hm0
  have HK := Lib.hid hk
  clear hk
  have hne := fun (g : Nat) (bs : Array Value) (w : World) => fn_ne g bs w
  go_enter Try.func20, Try.ntmps20
  go_wp2_with (first
    | (refine wpList_insertR rfl (.tmp 6) (.const (.int .i64 2)) (.tmp 7) 76 3 23 rfl iKeyed Try.underlying76 (w.heap.size + 2) 0 (by decide) rfl hm0 (.int .i64 2) (.func (.func 27) #[] #[.pointer (some ⟨w.heap.size, 0, none⟩), .pointer (some ⟨w.heap.size + 1, 0, none⟩)]) (.int .i64 2) rfl rfl (i_key (by decide)) (by trivial) ?_
       intro w1 hm1 hg1)
    | (refine wpList_insertR rfl (.tmp 6) (.const (.int .i64 15)) (.tmp 8) 76 3 23 rfl iKeyed Try.underlying76 (w.heap.size + 2) 1 (by decide) rfl hm1 (.int .i64 15) (.func (.func 28) #[] #[.pointer (some ⟨w.heap.size, 0, none⟩), .pointer (some ⟨w.heap.size + 1, 0, none⟩)]) (.int .i64 15) rfl rfl (i_key (by decide)) (by trivial) ?_
       intro w2 hm2 hg2)
    | (refine wpList_insertR rfl (.tmp 6) (.const (.int .i64 17)) (.tmp 9) 76 3 23 rfl iKeyed Try.underlying76 (w.heap.size + 2) 2 (by decide) rfl hm2 (.int .i64 17) (.func (.func 29) #[] #[.pointer (some ⟨w.heap.size, 0, none⟩)]) (.int .i64 17) rfl rfl (i_key (by decide)) (by trivial) ?_
       intro w3 hm3 hg3
       obtain ⟨hp3, hq3, hb3, hlk⟩ := fits_facts (m := m) HK.out hg1 hg2 hg3 hm3
       have d0 : w3.cell? ⟨w.heap.size + 1, 0, none⟩ = some (.int .i64 m.kind) := World.news_of_block hq3 0 _ rfl
       have HP3 := Lib.hid hp3
       have HQ3 := Lib.hid hq3
       have HB3 := Lib.hid hb3
       clear hp3 hq3 hb3 hm0 hm1 hm2 hm3 hg1 hg2 hg3
       have hn17 : m.kind ≠ 17 := by have := HX.out; omega
       have hk2 := HX.out
       rw [if_neg hn17, if_pos hk2] at hlk
       clear hn17 hk2)
    | fail)
  refine (fits2_any HP3.out HQ3.out).mono ?_
  rintro e w4 ⟨rfl, rfl⟩
  go_wp2_with fail
  go_ret
  exact ⟨rfl, HB3.out⟩
set_option maxHeartbeats 2000000 in
theorem fits_sev {w : World} {x : Cl} {m : Ms} {sv vv bv : Value} (hk : -9223372036854775808 ≤ m.kind ∧ m.kind ≤ 9223372036854775807) (hk17 : m.kind = 17) :
    Calls Try.prog 20 #[.agg (clC x sv), .agg (msC m vv bv)] w fun e w' => e = .returned (.bool (decide (2 < x.op))) ∧ Below w.heap.size w w' := by
  have HX := Lib.hid hk17
  clear hk17
  have hmm := @run_makeMap Try.prog
  have hm0 := MapR.made ((w.alloc (.cells (clC x sv) 35)).alloc (.cells (msC m vv bv) 39)) Try.prog 3
  have hz : ((w.alloc (.cells (clC x sv) 35)).alloc (.cells (msC m vv bv) 39)).heap.size = w.heap.size + 2 := by simp
  rw [hz] at hm0
  have HK := Lib.hid hk
  clear hk
  have hne := fun (g : Nat) (bs : Array Value) (w : World) => fn_ne g bs w
  go_enter Try.func20, Try.ntmps20
  go_wp2_with (first
    | (refine wpList_insertR rfl (.tmp 6) (.const (.int .i64 2)) (.tmp 7) 76 3 23 rfl iKeyed Try.underlying76 (w.heap.size + 2) 0 (by decide) rfl hm0 (.int .i64 2) (.func (.func 27) #[] #[.pointer (some ⟨w.heap.size, 0, none⟩), .pointer (some ⟨w.heap.size + 1, 0, none⟩)]) (.int .i64 2) rfl rfl (i_key (by decide)) (by trivial) ?_
       intro w1 hm1 hg1)
    | (refine wpList_insertR rfl (.tmp 6) (.const (.int .i64 15)) (.tmp 8) 76 3 23 rfl iKeyed Try.underlying76 (w.heap.size + 2) 1 (by decide) rfl hm1 (.int .i64 15) (.func (.func 28) #[] #[.pointer (some ⟨w.heap.size, 0, none⟩), .pointer (some ⟨w.heap.size + 1, 0, none⟩)]) (.int .i64 15) rfl rfl (i_key (by decide)) (by trivial) ?_
       intro w2 hm2 hg2)
    | (refine wpList_insertR rfl (.tmp 6) (.const (.int .i64 17)) (.tmp 9) 76 3 23 rfl iKeyed Try.underlying76 (w.heap.size + 2) 2 (by decide) rfl hm2 (.int .i64 17) (.func (.func 29) #[] #[.pointer (some ⟨w.heap.size, 0, none⟩)]) (.int .i64 17) rfl rfl (i_key (by decide)) (by trivial) ?_
       intro w3 hm3 hg3
       obtain ⟨hp3, hq3, hb3, hlk⟩ := fits_facts (m := m) HK.out hg1 hg2 hg3 hm3
       have d0 : w3.cell? ⟨w.heap.size + 1, 0, none⟩ = some (.int .i64 m.kind) := World.news_of_block hq3 0 _ rfl
       have HP3 := Lib.hid hp3
       have HQ3 := Lib.hid hq3
       have HB3 := Lib.hid hb3
       clear hp3 hq3 hb3 hm0 hm1 hm2 hm3 hg1 hg2 hg3
       have hk2 := HX.out
       rw [if_pos hk2] at hlk
       clear hk2)
    | fail)
  refine (fits3_any HP3.out).mono ?_
  rintro e w4 ⟨rfl, rfl⟩
  go_wp2_with fail
  go_ret
  exact ⟨rfl, HB3.out⟩
set_option maxHeartbeats 2000000 in
theorem fits_non {w : World} {x : Cl} {m : Ms} {sv vv bv : Value} (hk : -9223372036854775808 ≤ m.kind ∧ m.kind ≤ 9223372036854775807) (hn2 : m.kind ≠ 2) (hn15 : m.kind ≠ 15) (hn17 : m.kind ≠ 17) :
    Calls Try.prog 20 #[.agg (clC x sv), .agg (msC m vv bv)] w fun e w' => e = .returned (.bool false) ∧ Below w.heap.size w w' := by
  have HX := Lib.hid (And.intro hn2 (And.intro hn15 hn17))
  clear hn2 hn15 hn17
  have hmm := @run_makeMap Try.prog
  have hm0 := MapR.made ((w.alloc (.cells (clC x sv) 35)).alloc (.cells (msC m vv bv) 39)) Try.prog 3
  have hz : ((w.alloc (.cells (clC x sv) 35)).alloc (.cells (msC m vv bv) 39)).heap.size = w.heap.size + 2 := by simp
  rw [hz] at hm0
  have HK := Lib.hid hk
  clear hk
  have hne := fn_ne0
  go_enter Try.func20, Try.ntmps20
  go_wp2_with (first
    | (refine wpList_insertR rfl (.tmp 6) (.const (.int .i64 2)) (.tmp 7) 76 3 23 rfl iKeyed Try.underlying76 (w.heap.size + 2) 0 (by decide) rfl hm0 (.int .i64 2) (.func (.func 27) #[] #[.pointer (some ⟨w.heap.size, 0, none⟩), .pointer (some ⟨w.heap.size + 1, 0, none⟩)]) (.int .i64 2) rfl rfl (i_key (by decide)) (by trivial) ?_
       intro w1 hm1 hg1)
    | (refine wpList_insertR rfl (.tmp 6) (.const (.int .i64 15)) (.tmp 8) 76 3 23 rfl iKeyed Try.underlying76 (w.heap.size + 2) 1 (by decide) rfl hm1 (.int .i64 15) (.func (.func 28) #[] #[.pointer (some ⟨w.heap.size, 0, none⟩), .pointer (some ⟨w.heap.size + 1, 0, none⟩)]) (.int .i64 15) rfl rfl (i_key (by decide)) (by trivial) ?_
       intro w2 hm2 hg2)
    | (refine wpList_insertR rfl (.tmp 6) (.const (.int .i64 17)) (.tmp 9) 76 3 23 rfl iKeyed Try.underlying76 (w.heap.size + 2) 2 (by decide) rfl hm2 (.int .i64 17) (.func (.func 29) #[] #[.pointer (some ⟨w.heap.size, 0, none⟩)]) (.int .i64 17) rfl rfl (i_key (by decide)) (by trivial) ?_
       intro w3 hm3 hg3
       obtain ⟨hp3, hq3, hb3, hlk⟩ := fits_facts (m := m) HK.out hg1 hg2 hg3 hm3
       have d0 : w3.cell? ⟨w.heap.size + 1, 0, none⟩ = some (.int .i64 m.kind) := World.news_of_block hq3 0 _ rfl
       have HP3 := Lib.hid hp3
       have HQ3 := Lib.hid hq3
       have HB3 := Lib.hid hb3
       clear hp3 hq3 hb3 hm0 hm1 hm2 hm3 hg1 hg2 hg3
       rw [if_neg HX.out.2.2, if_neg HX.out.2.1, if_neg HX.out.1] at hlk)
    | fail)
  go_ret
  exact ⟨rfl, HB3.out⟩
theorem fits_any {w : World} {x : Cl} {m : Ms} {sv vv bv : Value} (hk : -9223372036854775808 ≤ m.kind ∧ m.kind ≤ 9223372036854775807) :
    Calls Try.prog 20 #[.agg (clC x sv), .agg (msC m vv bv)] w fun e w' => e = .returned (.bool (fitsB x m)) ∧ Below w.heap.size w w' := by
  unfold fitsB
  by_cases h2 : m.kind = 2
  · rw [if_pos h2]; exact fits_two hk h2
  · rw [if_neg h2]
    by_cases h15 : m.kind = 15
    · rw [if_pos h15]; exact fits_fif hk h15
    · rw [if_neg h15]
      by_cases h17 : m.kind = 17
      · rw [if_pos h17]; exact fits_sev hk h17
      · rw [if_neg h17]; exact fits_non hk h2 h15 h17
end Go.Proofs.Ytdmfladjhjpafaa
