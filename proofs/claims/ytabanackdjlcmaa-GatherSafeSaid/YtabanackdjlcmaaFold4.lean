/-
  Contracts of package fold: do.
-/
import Derived.Test.YtabanackdjlcmaaFold3
namespace Go.Proofs.Ytabanackdjlcmaa
open Go.ChangeShapes Go.WideShapes Go.ChangeAt Go.RowKit Go.Maps
set_option maxRecDepth 100000

theorem opIdOk (k : Int) (h : 0 ≤ k ∧ k ≤ 4) : IdOk k := ⟨h.1, by omega⟩
/-- The table of what is done by op: its four entries, stored one behind the other. -/
theorem do_map {w : World} {bm : Nat} (h : MapR w Try.prog 3 bm 0 (fun _ => none)) (v1 v2 v3 v4 : Value) :
    ∃ w1 w2 w3 w4, (Instr.mapUpdate 111 (.map (some bm)) (.int .i64 1) v1).run Try.prog w = .ok () w1 ∧ (Instr.mapUpdate 111 (.map (some bm)) (.int .i64 2) v2).run Try.prog w1 = .ok () w2 ∧
      (Instr.mapUpdate 111 (.map (some bm)) (.int .i64 3) v3).run Try.prog w2 = .ok () w3 ∧ (Instr.mapUpdate 111 (.map (some bm)) (.int .i64 4) v4).run Try.prog w3 = .ok () w4 ∧
      MapR w4 Try.prog 3 bm 4 (putF (putF (putF (putF (fun _ => none) (.int .i64 1) v1) (.int .i64 2) v2) (.int .i64 3) v3) (.int .i64 4) v4) ∧ w.grownBy w1 (some bm) ∧ w.grownBy w2 (some bm) ∧ w.grownBy w3 (some bm) ∧ w.grownBy w4 (some bm) := by
  obtain ⟨w1, r1, m1, g1⟩ := h.store idKeyed Try.underlying111 (by decide) (val := v1) (id_key (opIdOk 1 (by decide))) (by trivial)
  obtain ⟨w2, r2, m2, g2⟩ := m1.store idKeyed Try.underlying111 (by decide) (val := v2) (id_key (opIdOk 2 (by decide))) (by trivial)
  obtain ⟨w3, r3, m3, g3⟩ := m2.store idKeyed Try.underlying111 (by decide) (val := v3) (id_key (opIdOk 3 (by decide))) (by trivial)
  obtain ⟨w4, r4, m4, g4⟩ := m3.store idKeyed Try.underlying111 (by decide) (val := v4) (id_key (opIdOk 4 (by decide))) (by trivial)
  exact ⟨w1, w2, w3, w4, r1, r2, r3, r4, m4, g1, g1.trans g2, (g1.trans g2).trans g3, ((g1.trans g2).trans g3).trans g4⟩
theorem zeroFn (w : World) : (zeroValue 49).run Try.prog w = .ok .nilFunc w := by kernel_rfl
/-- What the table tells. -/
def opTab (v1 v2 v3 v4 : Value) (op : Int) : Option Value := if op = 4 then some v4 else if op = 3 then some v3 else if op = 2 then some v2 else if op = 1 then some v1 else none
theorem opTab_eq (v1 v2 v3 v4 : Value) (op : Int) : (putF (putF (putF (putF (fun _ => none) (.int .i64 1) v1) (.int .i64 2) v2) (.int .i64 3) v3) (.int .i64 4) v4) (.int .i64 op) = opTab v1 v2 v3 v4 op := by
  unfold opTab
  rw [putF_int, putF_int, putF_int, putF_int]

/-- What stands ahead of the call. -/
theorem do_frame (w : World) (b0 : Nat) (op client seq shard segs pos : Int) (v : Value) (hop : 0 ≤ op ∧ op ≤ 4) (v1 v2 v3 v4 : Value) :
    ∃ w1 w2 w3 w4, (let W := ((w.alloc (.cells #[.pointer (some ⟨b0, 0, none⟩)] 51)).alloc (.cells #[.int .i64 op, .int .u64 client, .int .u64 seq, .int .i64 shard, .int .i64 segs, .int .u64 pos, v] 46)).alloc (.map #[] 0)
      (Instr.mapUpdate 111 (.map (some (w.heap.size + 1 + 1))) (.int .i64 1) v1).run Try.prog W = .ok () w1 ∧ (Instr.mapUpdate 111 (.map (some (w.heap.size + 1 + 1))) (.int .i64 2) v2).run Try.prog w1 = .ok () w2 ∧
      (Instr.mapUpdate 111 (.map (some (w.heap.size + 1 + 1))) (.int .i64 3) v3).run Try.prog w2 = .ok () w3 ∧ (Instr.mapUpdate 111 (.map (some (w.heap.size + 1 + 1))) (.int .i64 4) v4).run Try.prog w3 = .ok () w4) ∧
      (Instr.lookup 111 (.map (some (w.heap.size + 1 + 1))) (.int .i64 op) true).run Try.prog w4 = .ok (.tuple #[(opTab v1 v2 v3 v4 op).getD .nilFunc, .bool (opTab v1 v2 v3 v4 op).isSome]) w4 ∧
      (w1.cell? ⟨w.heap.size, 0, none⟩ = some (.pointer (some ⟨b0, 0, none⟩)) ∧ w2.cell? ⟨w.heap.size, 0, none⟩ = some (.pointer (some ⟨b0, 0, none⟩)) ∧ w3.cell? ⟨w.heap.size, 0, none⟩ = some (.pointer (some ⟨b0, 0, none⟩)) ∧ w4.cell? ⟨w.heap.size, 0, none⟩ = some (.pointer (some ⟨b0, 0, none⟩))) ∧
      (w4.cell? ⟨w.heap.size + 1, 0, none⟩ = some (.int .i64 op) ∧ w4.cell? ⟨w.heap.size + 1, 1, none⟩ = some (.int .u64 client) ∧ w4.cell? ⟨w.heap.size + 1, 2, none⟩ = some (.int .u64 seq) ∧ w4.cell? ⟨w.heap.size + 1, 3, none⟩ = some (.int .i64 shard) ∧ w4.cell? ⟨w.heap.size + 1, 4, none⟩ = some (.int .i64 segs) ∧ w4.cell? ⟨w.heap.size + 1, 5, none⟩ = some (.int .u64 pos) ∧ w4.cell? ⟨w.heap.size + 1, 6, none⟩ = some v) ∧ Below w.heap.size w w4 := by
  have e1 : (w.alloc (.cells #[.pointer (some ⟨b0, 0, none⟩)] 51)).heap.size = w.heap.size + 1 := by simp
  have e2 : ((w.alloc (.cells #[.pointer (some ⟨b0, 0, none⟩)] 51)).alloc (.cells #[.int .i64 op, .int .u64 client, .int .u64 seq, .int .i64 shard, .int .i64 segs, .int .u64 pos, v] 46)).heap.size = w.heap.size + 1 + 1 := by simp
  have hm := MapR.made ((w.alloc (.cells #[.pointer (some ⟨b0, 0, none⟩)] 51)).alloc (.cells #[.int .i64 op, .int .u64 client, .int .u64 seq, .int .i64 shard, .int .i64 segs, .int .u64 pos, v] 46)) Try.prog 3
  rw [e2] at hm
  obtain ⟨w1, w2, w3, w4, r1, r2, r3, r4, m4, g1, g2, g3, g4⟩ := do_map hm v1 v2 v3 v4
  have hW : Below w.heap.size w (((w.alloc (.cells #[.pointer (some ⟨b0, 0, none⟩)] 51)).alloc (.cells #[.int .i64 op, .int .u64 client, .int .u64 seq, .int .i64 shard, .int .i64 segs, .int .u64 pos, v] 46)).alloc (.map #[] 0)) :=
    (((Below.refl _ _).alloc (Nat.le_refl _) _).alloc (by simp) _).alloc (by simp; omega) _
  have k0 : (((w.alloc (.cells #[.pointer (some ⟨b0, 0, none⟩)] 51)).alloc (.cells #[.int .i64 op, .int .u64 client, .int .u64 seq, .int .i64 shard, .int .i64 segs, .int .u64 pos, v] 46)).alloc (.map #[] 0)).heap[w.heap.size]? = some (.cells #[.pointer (some ⟨b0, 0, none⟩)] 51) := by
    rw [Below.heap_alloc _ _ _ (by simp; omega), Below.heap_alloc _ _ _ (by simp)]; exact heap_alloc_new w _
  have k1 : (((w.alloc (.cells #[.pointer (some ⟨b0, 0, none⟩)] 51)).alloc (.cells #[.int .i64 op, .int .u64 client, .int .u64 seq, .int .i64 shard, .int .i64 segs, .int .u64 pos, v] 46)).alloc (.map #[] 0)).heap[w.heap.size + 1]? = some (.cells #[.int .i64 op, .int .u64 client, .int .u64 seq, .int .i64 shard, .int .i64 segs, .int .u64 pos, v] 46) := by
    rw [Below.heap_alloc _ _ _ (by simp)]
    have := heap_alloc_new (w.alloc (.cells #[.pointer (some ⟨b0, 0, none⟩)] 51)) (.cells #[.int .i64 op, .int .u64 client, .int .u64 seq, .int .i64 shard, .int .i64 segs, .int .u64 pos, v] 46)
    rw [e1] at this
    exact this
  have hl := m4.look_ok idKeyed Try.underlying111 (zeroFn w4) (id_key (opIdOk op hop))
  rw [opTab_eq] at hl
  have c0 := World.news_of_block k0 0 _ rfl
  have kk : w4.heap[w.heap.size + 1]? = _ := (g4.block _ (by simp) (by simp)).trans k1
  refine ⟨w1, w2, w3, w4, ⟨r1, r2, r3, r4⟩, hl, ⟨g1.cell c0 (by simp; omega), g2.cell c0 (by simp; omega), g3.cell c0 (by simp; omega), g4.cell c0 (by simp; omega)⟩, ⟨by simp [World.cell?, kk], by simp [World.cell?, kk], by simp [World.cell?, kk], by simp [World.cell?, kk], by simp [World.cell?, kk], by simp [World.cell?, kk], by simp [World.cell?, kk]⟩, ?_⟩
  exact hW.grown g4 (by simp; omega) (fun k hk => by cases hk; omega)

set_option maxHeartbeats 1000000 in
theorem do_nop (w : World) (b0 : Nat) (client seq shard segs pos : Int) (v : Value) (hv2 : ∃ ao n c, v = .slice ao n c) :
    Calls Try.prog 46 #[.pointer (some ⟨b0, 0, none⟩), (.agg #[.int .i64 0, .int .u64 client, .int .u64 seq, .int .i64 shard, .int .i64 segs, .int .u64 pos, v])] w fun e w' => e = .returned (.int .i64 0) ∧ Below w.heap.size w w' := by
  obtain ⟨ao, n, c, rfl⟩ := hv2
  have hmm := @run_makeMap Try.prog
  obtain ⟨w1, w2, w3, w4, ⟨r1, r2, r3, r4⟩, hl0, ⟨c1, c2, c3, c4⟩, ⟨d0, d1, d2, d3, d4, d5, d6⟩, hb⟩ := do_frame w b0 0 client seq shard segs pos (.slice ao n c) (by decide) (.func (.func 61) #[.pointer (some ⟨b0, 0, none⟩)] #[]) (.func (.func 62) #[.pointer (some ⟨b0, 0, none⟩)] #[]) (.func (.func 63) #[.pointer (some ⟨b0, 0, none⟩)] #[]) (.func (.func 64) #[] #[.pointer (some ⟨w.heap.size, 0, none⟩)])
  have hl : (Instr.lookup 111 (.map (some (w.heap.size + 1 + 1))) (.int .i64 0) true).run Try.prog w4 = Result.ok (.tuple #[.nilFunc, .bool false]) w4 := hl0
  clear hl0
  have HB := Lib.hid hb
  clear hb
  go_enter Try.func46, Try.ntmps46
  go_wp2
  go_ret
  exact ⟨rfl, HB.out⟩

set_option maxHeartbeats 1000000 in
theorem do_add (w : World) (b0 : Nat) (client seq shard segs pos : Int) (v : Value) (hv2 : ∃ ao n c, v = .slice ao n c) {Q : Int → World → Prop}
    (hc : ∀ w1, Below w.heap.size w w1 → Calls Try.prog 61 #[.pointer (some ⟨b0, 0, none⟩), (.agg #[.int .i64 1, .int .u64 client, .int .u64 seq, .int .i64 shard, .int .i64 segs, .int .u64 pos, v])] w1 fun e w' => ∃ x, e = .returned (.int .i64 x) ∧ Q x w') :
    Calls Try.prog 46 #[.pointer (some ⟨b0, 0, none⟩), (.agg #[.int .i64 1, .int .u64 client, .int .u64 seq, .int .i64 shard, .int .i64 segs, .int .u64 pos, v])] w fun e w' => ∃ x, e = .returned (.int .i64 x) ∧ Q x w' := by
  obtain ⟨ao, n, c, rfl⟩ := hv2
  have HC := Lib.hid hc
  have hmm := @run_makeMap Try.prog
  obtain ⟨w1, w2, w3, w4, ⟨r1, r2, r3, r4⟩, hl0, ⟨c1, c2, c3, c4⟩, ⟨d0, d1, d2, d3, d4, d5, d6⟩, hb⟩ := do_frame w b0 1 client seq shard segs pos (.slice ao n c) (by decide) (.func (.func 61) #[.pointer (some ⟨b0, 0, none⟩)] #[]) (.func (.func 62) #[.pointer (some ⟨b0, 0, none⟩)] #[]) (.func (.func 63) #[.pointer (some ⟨b0, 0, none⟩)] #[]) (.func (.func 64) #[] #[.pointer (some ⟨w.heap.size, 0, none⟩)])
  have hl : (Instr.lookup 111 (.map (some (w.heap.size + 1 + 1))) (.int .i64 1) true).run Try.prog w4 = Result.ok (.tuple #[(.func (.func 61) #[.pointer (some ⟨b0, 0, none⟩)] #[]), .bool true]) w4 := hl0
  clear hl0
  have HB := Lib.hid hb
  have C4 := Lib.hid c4
  clear hb hc
  go_enter Try.func46, Try.ntmps46
  go_wp2_with fail
  refine (HC.out _ HB.out).mono ?_
  rintro e w' ⟨x, rfl, hq⟩
  have HQ := Lib.hid hq
  clear hq
  go_wp2_with fail
  go_ret
  exact ⟨x, rfl, HQ.out⟩

set_option maxHeartbeats 1000000 in
theorem do_seal (w : World) (b0 : Nat) (client seq shard segs pos : Int) (v : Value) (hv2 : ∃ ao n c, v = .slice ao n c) {Q : Int → World → Prop}
    (hc : ∀ w1, Below w.heap.size w w1 → Calls Try.prog 62 #[.pointer (some ⟨b0, 0, none⟩), (.agg #[.int .i64 2, .int .u64 client, .int .u64 seq, .int .i64 shard, .int .i64 segs, .int .u64 pos, v])] w1 fun e w' => ∃ x, e = .returned (.int .i64 x) ∧ Q x w') :
    Calls Try.prog 46 #[.pointer (some ⟨b0, 0, none⟩), (.agg #[.int .i64 2, .int .u64 client, .int .u64 seq, .int .i64 shard, .int .i64 segs, .int .u64 pos, v])] w fun e w' => ∃ x, e = .returned (.int .i64 x) ∧ Q x w' := by
  obtain ⟨ao, n, c, rfl⟩ := hv2
  have HC := Lib.hid hc
  have hmm := @run_makeMap Try.prog
  obtain ⟨w1, w2, w3, w4, ⟨r1, r2, r3, r4⟩, hl0, ⟨c1, c2, c3, c4⟩, ⟨d0, d1, d2, d3, d4, d5, d6⟩, hb⟩ := do_frame w b0 2 client seq shard segs pos (.slice ao n c) (by decide) (.func (.func 61) #[.pointer (some ⟨b0, 0, none⟩)] #[]) (.func (.func 62) #[.pointer (some ⟨b0, 0, none⟩)] #[]) (.func (.func 63) #[.pointer (some ⟨b0, 0, none⟩)] #[]) (.func (.func 64) #[] #[.pointer (some ⟨w.heap.size, 0, none⟩)])
  have hl : (Instr.lookup 111 (.map (some (w.heap.size + 1 + 1))) (.int .i64 2) true).run Try.prog w4 = Result.ok (.tuple #[(.func (.func 62) #[.pointer (some ⟨b0, 0, none⟩)] #[]), .bool true]) w4 := hl0
  clear hl0
  have HB := Lib.hid hb
  have C4 := Lib.hid c4
  clear hb hc
  go_enter Try.func46, Try.ntmps46
  go_wp2_with fail
  refine (HC.out _ HB.out).mono ?_
  rintro e w' ⟨x, rfl, hq⟩
  have HQ := Lib.hid hq
  clear hq
  go_wp2_with fail
  go_ret
  exact ⟨x, rfl, HQ.out⟩

set_option maxHeartbeats 1000000 in
theorem do_trim (w : World) (b0 : Nat) (client seq shard segs pos : Int) (v : Value) (hv2 : ∃ ao n c, v = .slice ao n c) {Q : Int → World → Prop}
    (hc : ∀ w1, Below w.heap.size w w1 → Calls Try.prog 63 #[.pointer (some ⟨b0, 0, none⟩), (.agg #[.int .i64 3, .int .u64 client, .int .u64 seq, .int .i64 shard, .int .i64 segs, .int .u64 pos, v])] w1 fun e w' => ∃ x, e = .returned (.int .i64 x) ∧ Q x w') :
    Calls Try.prog 46 #[.pointer (some ⟨b0, 0, none⟩), (.agg #[.int .i64 3, .int .u64 client, .int .u64 seq, .int .i64 shard, .int .i64 segs, .int .u64 pos, v])] w fun e w' => ∃ x, e = .returned (.int .i64 x) ∧ Q x w' := by
  obtain ⟨ao, n, c, rfl⟩ := hv2
  have HC := Lib.hid hc
  have hmm := @run_makeMap Try.prog
  obtain ⟨w1, w2, w3, w4, ⟨r1, r2, r3, r4⟩, hl0, ⟨c1, c2, c3, c4⟩, ⟨d0, d1, d2, d3, d4, d5, d6⟩, hb⟩ := do_frame w b0 3 client seq shard segs pos (.slice ao n c) (by decide) (.func (.func 61) #[.pointer (some ⟨b0, 0, none⟩)] #[]) (.func (.func 62) #[.pointer (some ⟨b0, 0, none⟩)] #[]) (.func (.func 63) #[.pointer (some ⟨b0, 0, none⟩)] #[]) (.func (.func 64) #[] #[.pointer (some ⟨w.heap.size, 0, none⟩)])
  have hl : (Instr.lookup 111 (.map (some (w.heap.size + 1 + 1))) (.int .i64 3) true).run Try.prog w4 = Result.ok (.tuple #[(.func (.func 63) #[.pointer (some ⟨b0, 0, none⟩)] #[]), .bool true]) w4 := hl0
  clear hl0
  have HB := Lib.hid hb
  have C4 := Lib.hid c4
  clear hb hc
  go_enter Try.func46, Try.ntmps46
  go_wp2_with fail
  refine (HC.out _ HB.out).mono ?_
  rintro e w' ⟨x, rfl, hq⟩
  have HQ := Lib.hid hq
  clear hq
  go_wp2_with fail
  go_ret
  exact ⟨x, rfl, HQ.out⟩

set_option maxHeartbeats 1000000 in
theorem do_cut (w : World) (b0 : Nat) (client seq shard segs pos : Int) (v : Value) (hv2 : ∃ ao n c, v = .slice ao n c) {Q : Int → World → Prop}
    (hc : ∀ w1, Below w.heap.size w w1 → w1.cell? ⟨w.heap.size, 0, none⟩ = some (.pointer (some ⟨b0, 0, none⟩)) → Calls Try.prog 64 #[(.agg #[.int .i64 4, .int .u64 client, .int .u64 seq, .int .i64 shard, .int .i64 segs, .int .u64 pos, v]), .pointer (some ⟨w.heap.size, 0, none⟩)] w1 fun e w' => ∃ x, e = .returned (.int .i64 x) ∧ Q x w') :
    Calls Try.prog 46 #[.pointer (some ⟨b0, 0, none⟩), (.agg #[.int .i64 4, .int .u64 client, .int .u64 seq, .int .i64 shard, .int .i64 segs, .int .u64 pos, v])] w fun e w' => ∃ x, e = .returned (.int .i64 x) ∧ Q x w' := by
  obtain ⟨ao, n, c, rfl⟩ := hv2
  have HC := Lib.hid hc
  have hmm := @run_makeMap Try.prog
  obtain ⟨w1, w2, w3, w4, ⟨r1, r2, r3, r4⟩, hl0, ⟨c1, c2, c3, c4⟩, ⟨d0, d1, d2, d3, d4, d5, d6⟩, hb⟩ := do_frame w b0 4 client seq shard segs pos (.slice ao n c) (by decide) (.func (.func 61) #[.pointer (some ⟨b0, 0, none⟩)] #[]) (.func (.func 62) #[.pointer (some ⟨b0, 0, none⟩)] #[]) (.func (.func 63) #[.pointer (some ⟨b0, 0, none⟩)] #[]) (.func (.func 64) #[] #[.pointer (some ⟨w.heap.size, 0, none⟩)])
  have hl : (Instr.lookup 111 (.map (some (w.heap.size + 1 + 1))) (.int .i64 4) true).run Try.prog w4 = Result.ok (.tuple #[(.func (.func 64) #[] #[.pointer (some ⟨w.heap.size, 0, none⟩)]), .bool true]) w4 := hl0
  clear hl0
  have HB := Lib.hid hb
  have C4 := Lib.hid c4
  clear hb hc
  go_enter Try.func46, Try.ntmps46
  go_wp2_with fail
  refine (HC.out _ HB.out C4.out).mono ?_
  rintro e w' ⟨x, rfl, hq⟩
  have HQ := Lib.hid hq
  clear hq
  go_wp2_with fail
  go_ret
  exact ⟨x, rfl, HQ.out⟩
end Go.Proofs.Ytabanackdjlcmaa
