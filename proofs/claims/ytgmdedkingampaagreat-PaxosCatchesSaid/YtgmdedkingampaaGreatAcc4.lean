/-
  Package acceptor: Forget.
-/
import Derived.Test.YtgmdedkingampaaGreatLib5
import Derived.Test.YtgmdedkingampaaGreatClo
import Derived.Test.YtgmdedkingampaaGreatProg
import Derived.Maps.RangeWalk
set_option linter.unusedVariables false
set_option linter.unusedSimpArgs false
namespace Go.Proofs.YtgmdedkingampaaGreat
open Go.ChangeShapes Go.WideShapes Go.ChangeAt Go.RowKit Go.Maps
set_option maxRecDepth 100000

/-- A vote. -/
structure Vt where
  slot : Int
  ballot : Int
  val : List Int
structure AS where
  promised : Int
  low : Int
  l : Int → Option Vt
theorem zeroVote (w : World) : (zeroValue 80).run Tryz.prog w = .ok (.agg #[.int .u64 0, .int .u64 0, .slice none 0 0]) w := by kernel_rfl
theorem Tryz.voteInfo : (Tryz.prog.info? 80).map (fun i => (i.zero, i.size, i.bytes)) = some (some (.agg #[.int .u64 0, .int .u64 0, .slice none 0 0]), 3, 40) := by kernel_rfl

/-- How a vote lies in a map. -/
def VtV (w : World) (D : Nat → Prop) (b0 bm : Nat) (fv : Option Value) : Option Vt → Prop
  | none => fv = none
  | some v => ∃ sv, fv = some (.agg #[.int .u64 v.slot, .int .u64 v.ballot, sv]) ∧ SlR w sv (u8s v.val) ∧ ∀ k, sv.ownBlock = some k → D k ∧ k ≠ b0 ∧ k ≠ bm
def VtOk (a : Int) (v : Vt) : Prop := v.slot = a ∧ U1 v.ballot ∧ U8 v.val ∧ v.val.length ≤ 1000000
/-- A map of votes. -/
structure VMap (w : World) (D : Nat → Prop) (b0 bm N : Nat) (l : Int → Option Vt) : Prop where
  vals : ∃ f, MapR w Tryz.prog 39 bm N f ∧ (∀ a : Int, U1 a → VtV w D b0 bm (f (.int .u64 a)) (l a)) ∧ ∀ kl, (f kl).isSome = true → ∃ a : Int, U1 a ∧ kl = .int .u64 a
  small : ∀ a v, l a = some v → U1 a ∧ VtOk a v
structure AccR (w : World) (D : Nat → Prop) (b0 bm N : Nat) (A : AS) : Prop where
  cells : w.heap[b0]? = some (.cells #[.int .u64 A.promised, .int .u64 A.low, .map (some bm)] 146 (0, 0))
  lt : ∀ k, D k → k < w.heap.size
  d0 : D b0
  dm : D bm
  ne : bm ≠ b0
  map : VMap w D b0 bm N A.l
  num : U1 A.promised ∧ U1 A.low
def emptyAS : AS := ⟨0, 0, fun _ => none⟩
theorem VtV.keep {S D D' : Nat → Prop} {w w' : World} {b0 bm : Nat} {fv : Option Value} {mx : Option Vt} (hk : Keep S w w') (hS : ∀ k, S k → D k → k = b0 ∨ k = bm) (hD : ∀ k, D k → D' k) (h : VtV w D b0 bm fv mx) : VtV w' D' b0 bm fv mx := by
  cases mx with
  | none => exact h
  | some s =>
    obtain ⟨sv, h1, h2, h3⟩ := h
    refine ⟨sv, h1, h2.keep hk (fun k hk' hs => ?_), fun k hk => ⟨hD k (h3 k hk).1, (h3 k hk).2⟩⟩
    obtain ⟨g1, g0, g2⟩ := h3 k hk'
    rcases hS k hs g1 with h | h
    · exact g0 h
    · exact g2 h
theorem VMap.keep {S D D' : Nat → Prop} {w w' : World} {b0 bm N : Nat} {l : Int → Option Vt} (h : VMap w D b0 bm N l) (hk : Keep S w w') (hS : ∀ k, S k → D k → k = b0) (hm : D bm) (hne : bm ≠ b0) (hD : ∀ k, D k → D' k) : VMap w' D' b0 bm N l := by
  obtain ⟨⟨f, hf, hv, hx⟩, h2⟩ := h
  exact ⟨⟨f, hf.keep hk (fun hs => hne (hS _ hs hm)), fun a ha => (hv a ha).keep hk (fun k hs hd => Or.inl (hS k hs hd)) hD, hx⟩, h2⟩
theorem AccR.keep {S D : Nat → Prop} {w w' : World} {b0 bm N : Nat} {A : AS} (h : AccR w D b0 bm N A) (hk : Keep S w w') (hS : ∀ k, S k → ¬ D k) : AccR w' D b0 bm N A :=
  ⟨(hk.block b0 (h.lt _ h.d0) (fun hs => hS _ hs h.d0)).trans h.cells, fun k hd => Nat.lt_of_lt_of_le (h.lt k hd) hk.size, h.d0, h.dm, h.ne, h.map.keep hk (fun k hs hd => absurd hd (hS k hs)) h.dm h.ne (fun _ h => h), h.num⟩
theorem AccR.below {B : Nat} {D : Nat → Prop} {w w' : World} {b0 bm N : Nat} {A : AS} (h : AccR w D b0 bm N A) (hb : Below B w w') (hB : w.heap.size ≤ B) : AccR w' D b0 bm N A := by
  refine h.keep (S := fun k => w.heap.size ≤ k) (Below.keep hb (fun k hk h => by omega)) (fun k hk hd => ?_)
  have := h.lt k hd
  omega
theorem AccR.cell {D : Nat → Prop} {w : World} {b0 bm N : Nat} {A : AS} (h : AccR w D b0 bm N A) : w.cell? ⟨b0, 0, none⟩ = some (.int .u64 A.promised) ∧ w.cell? ⟨b0, 1, none⟩ = some (.int .u64 A.low) ∧ w.cell? ⟨b0, 2, none⟩ = some (.map (some bm)) ∧
    w.frozen? ⟨b0, 0, none⟩ = false ∧ w.frozen? ⟨b0, 1, none⟩ = false := by
  have := h.cells
  simp [World.cell?, World.frozen?, this]
theorem AccR.wider {D D' : Nat → Prop} {w : World} {b0 bm N M : Nat} {A : AS} (h : AccR w D b0 bm N A) (hD : ∀ k, D k → D' k) (hlt : ∀ k, D' k → k < w.heap.size) (hM : N ≤ M) : AccR w D' b0 bm M A := by
  obtain ⟨⟨f, hf, hv, hx⟩, h2⟩ := h.map
  exact ⟨h.cells, hlt, hD _ h.d0, hD _ h.dm, h.ne, ⟨⟨f, hf.mono hM, fun a ha => (hv a ha).keep (Keep.refl (fun _ => False) w) (fun k hk => hk.elim) hD, hx⟩, h2⟩, h.num⟩
theorem AccR.setP {D : Nat → Prop} {w : World} {b0 bm N : Nat} {A : AS} (h : AccR w D b0 bm N A) {x : Int} (hx : U1 x) : AccR (w.setCell ⟨b0, 0, none⟩ (.int .u64 x)) D b0 bm N ⟨x, A.low, A.l⟩ := by
  have hk : Keep (fun k => k = b0) w (w.setCell ⟨b0, 0, none⟩ (.int .u64 x)) := Keep.setCell (S := fun k => k = b0) (Keep.refl _ _) (p := ⟨b0, 0, none⟩) (Or.inl rfl) _
  exact ⟨by simpa using heap_setCell_same w b0 0 _ _ (.int .u64 x) h.cells, fun k hd => Nat.lt_of_lt_of_le (h.lt k hd) hk.size, h.d0, h.dm, h.ne, h.map.keep hk (fun k hs _ => hs) h.dm h.ne (fun _ h => h), hx, h.num.2⟩
theorem AccR.setL {D : Nat → Prop} {w : World} {b0 bm N : Nat} {A : AS} (h : AccR w D b0 bm N A) {x : Int} (hx : U1 x) : AccR (w.setCell ⟨b0, 1, none⟩ (.int .u64 x)) D b0 bm N ⟨A.promised, x, A.l⟩ := by
  have hk : Keep (fun k => k = b0) w (w.setCell ⟨b0, 1, none⟩ (.int .u64 x)) := Keep.setCell (S := fun k => k = b0) (Keep.refl _ _) (p := ⟨b0, 1, none⟩) (Or.inl rfl) _
  exact ⟨by simpa using heap_setCell_same w b0 1 _ _ (.int .u64 x) h.cells, fun k hd => Nat.lt_of_lt_of_le (h.lt k hd) hk.size, h.d0, h.dm, h.ne, h.map.keep hk (fun k hs _ => hs) h.dm h.ne (fun _ h => h), h.num.1, hx⟩

theorem anew_any (w : World) : Calls Tryz.prog 62 #[] w fun e w' => e = .returned (.pointer (some ⟨w.heap.size + 1, 0, none⟩)) ∧ AccR w' (fun k => w.heap.size ≤ k ∧ k < w.heap.size + 2) (w.heap.size + 1) w.heap.size 0 emptyAS ∧ Below w.heap.size w w' := by
  have hmm := @run_makeMap Tryz.prog
  go_enter Tryz.func62, Tryz.ntmps62
  go_wp2
  go_ret
  have e1 : ((w.alloc (.map #[] 0)).heap.size) = w.heap.size + 1 := by simp
  refine ⟨by simp, ⟨?_, fun k hk => by simp; omega, by constructor <;> omega, by constructor <;> omega, by omega, ⟨⟨fun _ => none, (MapR.made w Tryz.prog 39).same (Below.heap_alloc _ _ _ (by simp)), fun _ _ => rfl, by intro kl h; cases h⟩, by intro a v h; cases h⟩, by constructor <;> constructor <;> simp [emptyAS]⟩, ((Below.refl _ _).alloc (Nat.le_refl _) _).alloc (by simp) _⟩
  have := heap_alloc_new (w.alloc (.map #[] 0)) (.cells #[.int .u64 0, .int .u64 0, .map (some w.heap.size)] 146 (0, 0))
  rw [e1] at this
  exact this
theorem promised_any {D : Nat → Prop} {w : World} {b0 bm N : Nat} {A : AS} (h : AccR w D b0 bm N A) : Calls Tryz.prog 42 #[.pointer (some ⟨b0, 0, none⟩)] w fun e w' => e = .returned (.int .u64 A.promised) ∧ w = w' := by
  obtain ⟨c0, c1, c2, _⟩ := h.cell
  clear h
  go_enter Tryz.func42, Tryz.ntmps42
  go_wp2
  go_ret
  exact ⟨rfl, rfl⟩
theorem alow_any {D : Nat → Prop} {w : World} {b0 bm N : Nat} {A : AS} (h : AccR w D b0 bm N A) : Calls Tryz.prog 89 #[.pointer (some ⟨b0, 0, none⟩)] w fun e w' => e = .returned (.int .u64 A.low) ∧ w = w' := by
  obtain ⟨c0, c1, c2, _⟩ := h.cell
  clear h
  go_enter Tryz.func89, Tryz.ntmps89
  go_wp2
  go_ret
  exact ⟨rfl, rfl⟩
theorem promise_old {D : Nat → Prop} {w : World} {b0 bm N : Nat} {A : AS} (h : AccR w D b0 bm N A) {x : Int} (hx : x < A.promised) : Calls Tryz.prog 76 #[.pointer (some ⟨b0, 0, none⟩), .int .u64 x] w fun e w' => e = .returned (.int .i64 32) ∧ w = w' := by
  obtain ⟨c0, c1, c2, _⟩ := h.cell
  clear h
  go_enter Tryz.func76, Tryz.ntmps76
  go_wp2
  go_ret
  exact ⟨rfl, rfl⟩
theorem promise_ok {D : Nat → Prop} {w : World} {b0 bm N : Nat} {A : AS} (h : AccR w D b0 bm N A) {x : Int} (hx : A.promised ≤ x) (hu : U1 x) : Calls Tryz.prog 76 #[.pointer (some ⟨b0, 0, none⟩), .int .u64 x] w fun e w' => e = .returned (.int .i64 0) ∧ AccR w' D b0 bm N ⟨x, A.low, A.l⟩ ∧ Keep (fun k => k = b0) w w' := by
  obtain ⟨c0, c1, c2, f0, f1⟩ := h.cell
  have H := Lib.hid h
  have hn : ¬ x < A.promised := by omega
  clear h
  go_enter Tryz.func76, Tryz.ntmps76
  go_wp2
  go_ret
  exact ⟨rfl, H.out.setP hu, Keep.setCell (S := fun k => k = b0) (Keep.refl _ _) (p := ⟨b0, 0, none⟩) (Or.inl rfl) _⟩

/-- A vote in new memory. -/
def RetVt (w : World) (v : Vt) (e : Ending) (w' : World) : Prop := ∃ ao c, e = .returned (.agg #[.int .u64 v.slot, .int .u64 v.ballot, .slice ao v.val.length c]) ∧ w'.ownsRow w.heap.size 5 1 (.slice ao v.val.length c) v.val.length (u8s v.val) ∧ Below w.heap.size w w'
set_option maxHeartbeats 400000 in
theorem copied_any {sv : Value} {v : Vt} {w : World} (h : SlR w sv (u8s v.val)) (hl : v.val.length ≤ 1000000000) :
    Calls Tryz.prog 79 #[.agg #[.int .u64 v.slot, .int .u64 v.ballot, sv]] w (RetVt w v) := by
  obtain ⟨slot, ballot, xs⟩ := v
  simp only at h hl
  obtain ⟨ao, c, rfl, _, _⟩ := id h.form
  simp only [List.length_map] at h
  have hb1 := (Below.refl w.heap.size w).alloc (Nat.le_refl _) (.cells #[.int .u64 slot, .int .u64 ballot, .slice ao xs.length c] 80)
  have hb2 := hb1.alloc hb1.size (.cells #[.int .u64 0, .int .u64 0, .slice none 0 0] 80)
  have hs1 : (w.alloc (.cells #[.int .u64 slot, .int .u64 ballot, .slice ao xs.length c] 80)).heap.size = w.heap.size + 1 := by simp
  have HC := Lib.hid (cloneB_any (h.below hb2 (Nat.le_refl _)) hl)
  have hk1 : ((w.alloc (.cells #[.int .u64 slot, .int .u64 ballot, .slice ao xs.length c] 80)).alloc (.cells #[.int .u64 0, .int .u64 0, .slice none 0 0] 80)).heap[w.heap.size]? = some (.cells #[.int .u64 slot, .int .u64 ballot, .slice ao xs.length c] 80 (0, 0)) :=
    (Below.heap_alloc _ _ _ (by simp)).trans (heap_alloc_new w _)
  have hk2 : ((w.alloc (.cells #[.int .u64 slot, .int .u64 ballot, .slice ao xs.length c] 80)).alloc (.cells #[.int .u64 0, .int .u64 0, .slice none 0 0] 80)).heap[w.heap.size + 1]? = some (.cells #[.int .u64 0, .int .u64 0, .slice none 0 0] 80 (0, 0)) := by
    have := heap_alloc_new (w.alloc (.cells #[.int .u64 slot, .int .u64 ballot, .slice ao xs.length c] 80)) (.cells #[.int .u64 0, .int .u64 0, .slice none 0 0] 80 (0, 0))
    rw [hs1] at this; exact this
  have HB2 := Lib.hid hb2
  have HK1 := Lib.hid hk1
  have HK2 := Lib.hid hk2
  clear hb1 hb2 hk1 hk2 h
  go_enter Tryz.func79, Tryz.ntmps79
  go_wp2_with fail
  refine HC.out.mono ?_
  rintro e w3 ⟨v', rfl, hown, hb3⟩
  obtain ⟨ko, kc, rfl, _, _⟩ := own_form hown
  have k1 := (hb3.block w.heap.size (by simp; omega)).trans HK1.out
  have k2 := (hb3.block (w.heap.size + 1) (by simp)).trans HK2.out
  have q0 : w3.cell? ⟨w.heap.size, 0, none⟩ = some (.int .u64 slot) := by simp [World.cell?, k1]
  have q1 : w3.cell? ⟨w.heap.size, 1, none⟩ = some (.int .u64 ballot) := by simp [World.cell?, k1]
  have q2 : w3.cell? ⟨w.heap.size, 2, none⟩ = some (.slice ao xs.length c) := by simp [World.cell?, k1]
  have z2 : w3.frozen? ⟨w.heap.size, 2, none⟩ = false := by simp [World.frozen?, k1]
  have r0 : w3.cell? ⟨w.heap.size + 1, 0, none⟩ = some (.int .u64 0) := by simp [World.cell?, k2]
  have r1 : w3.cell? ⟨w.heap.size + 1, 1, none⟩ = some (.int .u64 0) := by simp [World.cell?, k2]
  have r2 : w3.cell? ⟨w.heap.size + 1, 2, none⟩ = some (.slice none 0 0) := by simp [World.cell?, k2]
  have y0 : w3.frozen? ⟨w.heap.size + 1, 0, none⟩ = false := by simp [World.frozen?, k2]
  have y1 : w3.frozen? ⟨w.heap.size + 1, 1, none⟩ = false := by simp [World.frozen?, k2]
  have y2 : w3.frozen? ⟨w.heap.size + 1, 2, none⟩ = false := by simp [World.frozen?, k2]
  have HO := Lib.hid (hown.weaken (base' := w.heap.size) (by have := HB2.out.size; exact this))
  have hge : ∀ k, (Value.slice ko xs.length kc).ownBlock = some k → w.heap.size + 2 ≤ k := fun k hk => by have := (hown.lt k hk).1; simp at this; omega
  have HG := Lib.hid hge
  have HB3 := Lib.hid (HB2.out.trans (hb3.mono HB2.out.size))
  have k3 : (w3.setCell ⟨w.heap.size, 2, none⟩ (.slice ko xs.length kc)).heap[w.heap.size + 1]? = _ := (Below.heap_setCell _ _ _ _ (by simp)).trans k2
  have b1 := heap_setCell_same _ (w.heap.size + 1) 0 _ _ (.int .u64 slot) k3
  have b2 := heap_setCell_same _ (w.heap.size + 1) 1 _ _ (.int .u64 ballot) b1
  have b3 := heap_setCell_same _ (w.heap.size + 1) 2 _ _ (.slice ko xs.length kc) b2
  have s0 := World.news_of_block b3 0 _ rfl
  have s1 := World.news_of_block b3 1 _ rfl
  have s2 := World.news_of_block b3 2 _ rfl
  have S0 := Lib.hid s0
  have S1 := Lib.hid s1
  have S2 := Lib.hid s2
  clear k1 k2 k3 b1 b2 b3 s0 s1 s2 hown hb3 hge
  go_wp2_with fail
  obtain ⟨W4, HW4⟩ : ∃ x, x = (((w3.setCell ⟨w.heap.size, 2, none⟩ (.slice ko xs.length kc)).setCell ⟨w.heap.size + 1, 0, none⟩ (.int .u64 slot)).setCell ⟨w.heap.size + 1, 1, none⟩ (.int .u64 ballot)).setCell ⟨w.heap.size + 1, 2, none⟩ (.slice ko xs.length kc) := ⟨_, rfl⟩
  rw [← HW4] at S0 S1 S2 ⊢
  have s0 : W4.cell? ⟨w.heap.size + 1, 0, none⟩ = some (.int .u64 slot) := S0.out
  have s1 : W4.cell? ⟨w.heap.size + 1, 1, none⟩ = some (.int .u64 ballot) := S1.out
  have s2 : W4.cell? ⟨w.heap.size + 1, 2, none⟩ = some (.slice ko xs.length kc) := S2.out
  refine bodyPost_ret (v := .agg #[.int .u64 slot, .int .u64 ballot, .slice ko xs.length kc]) (by simp [results, Tryz.results79, go_sem, s0, s1, s2]) rfl ?_
  subst HW4
  refine ⟨ko, kc, rfl, ?_, ?_⟩
  · refine own_keep HO.out (fun b hb => ?_)
    have := HG.out b hb
    repeat rw [Below.heap_setCell _ _ _ _ (by simp; omega)]
  · exact (((HB3.out.setCell (by simp) _).setCell (by simp) _).setCell (by simp) _).setCell (by simp) _
end Go.Proofs.YtgmdedkingampaaGreat

namespace Go.Proofs.YtgmdedkingampaaGreat
open Go.ChangeShapes Go.WideShapes Go.ChangeAt Go.RowKit Go.Maps
set_option maxRecDepth 100000


def putA (A : AS) (v : Vt) : AS := ⟨v.ballot, A.low, fun a => if a = v.slot then some v else A.l a⟩
def accE (A : AS) (v : Vt) : Int := if v.ballot < A.promised then 32 else if v.slot < A.low then 15 else 0
def accR (A : AS) (v : Vt) : AS := if accE A v = 0 then putA A v else A

set_option maxHeartbeats 1000000 in
theorem accept_old {D : Nat → Prop} {w : World} {b0 bm N : Nat} {A : AS} {sv : Value} {v : Vt} (h : AccR w D b0 bm N A) (hs : SlR w sv (u8s v.val)) (hb : v.ballot < A.promised) :
    Calls Tryz.prog 93 #[.pointer (some ⟨b0, 0, none⟩), .agg #[.int .u64 v.slot, .int .u64 v.ballot, sv]] w fun e w' => e = .returned (.int .i64 32) ∧ Below w.heap.size w w' := by
  obtain ⟨slot, ballot, xs⟩ := v
  simp only at hs hb
  obtain ⟨ao, c, rfl, _, _⟩ := hs.form
  simp only [List.length_map] at hs
  have hb1 := (Below.refl w.heap.size w).alloc (Nat.le_refl _) (.cells #[.int .u64 slot, .int .u64 ballot, .slice ao xs.length c] 80)
  obtain ⟨c0, c1, c2, _⟩ := (h.below hb1 (Nat.le_refl _)).cell
  have hd : decide (ballot < A.promised) = true := decide_eq_true hb
  have HB := Lib.hid hb1
  clear hb1 h hs hb
  go_enter Tryz.func93, Tryz.ntmps93
  go_wp2_with fail
  go_quiet (fail)
  go_wp2_with fail
  go_ret
  exact ⟨rfl, below_drewN HB.out _⟩
set_option maxHeartbeats 1000000 in
theorem accept_range {D : Nat → Prop} {w : World} {b0 bm N : Nat} {A : AS} {sv : Value} {v : Vt} (h : AccR w D b0 bm N A) (hs : SlR w sv (u8s v.val)) (hb : A.promised ≤ v.ballot) (hl : v.slot < A.low) :
    Calls Tryz.prog 93 #[.pointer (some ⟨b0, 0, none⟩), .agg #[.int .u64 v.slot, .int .u64 v.ballot, sv]] w fun e w' => e = .returned (.int .i64 15) ∧ Below w.heap.size w w' := by
  obtain ⟨slot, ballot, xs⟩ := v
  simp only at hs hb hl
  obtain ⟨ao, c, rfl, _, _⟩ := hs.form
  simp only [List.length_map] at hs
  have hb1 := (Below.refl w.heap.size w).alloc (Nat.le_refl _) (.cells #[.int .u64 slot, .int .u64 ballot, .slice ao xs.length c] 80)
  obtain ⟨c0, c1, c2, _⟩ := (h.below hb1 (Nat.le_refl _)).cell
  have hd : decide (ballot < A.promised) = false := decide_eq_false (by omega)
  have hd2 : decide (slot < A.low) = true := decide_eq_true hl
  have HB := Lib.hid hb1
  clear hb1 h hs hb hl
  go_enter Tryz.func93, Tryz.ntmps93
  go_wp2_with fail
  go_quiet (fail)
  go_wp2_with fail
  go_quiet (fail)
  go_wp2_with fail
  go_ret
  exact ⟨rfl, by first | exact below_drewN HB.out _ | exact below_drewN (below_drewN HB.out _) _⟩

/-- A vote is stored. -/
theorem AccR.put {D : Nat → Prop} {w wm w2 : World} {b0 bm N B : Nat} {A : AS} {v : Vt} {sv : Value} {f : Lit → Option Value} (h : AccR w D b0 bm N A) (hB : w.heap.size ≤ B) (hb : Below w.heap.size w wm)
    (hown : wm.ownsRow B 5 1 sv v.val.length (u8s v.val)) (hm : MapR w2 Tryz.prog 39 bm (N + 1) (putF f (.int .u64 v.slot) (.agg #[.int .u64 v.slot, .int .u64 v.ballot, sv]))) (hg : wm.grownBy w2 (some bm))
    (hf : ∀ a : Int, U1 a → VtV w D b0 bm (f (.int .u64 a)) (A.l a)) (hx : ∀ kl, (f kl).isSome = true → ∃ a : Int, U1 a ∧ kl = .int .u64 a) (us : U1 v.slot) (ub : U1 v.ballot) (ux : U8 v.val) (lx : v.val.length ≤ 1000000) :
    AccR w2 (fun k => D k ∨ (w.heap.size ≤ k ∧ k < w2.heap.size)) b0 bm (N + 1) ⟨A.promised, A.low, fun a => if a = v.slot then some v else A.l a⟩ ∧ Keep (fun k => k = bm) w w2 := by
  have hkg : Keep (fun k => k = bm) wm w2 := Keep.grown hg (fun k hk => by cases hk; rfl)
  have hk : Keep (fun k => k = bm) w w2 := (Below.keep0 _ hb).trans hkg
  have hbm := h.lt _ h.dm
  have hb0 := h.lt _ h.d0
  have hne := h.ne
  refine ⟨⟨(hk.block b0 hb0 (fun e => hne e.symm)).trans h.cells, fun k hd => ?_, Or.inl h.d0, Or.inl h.dm, h.ne, ⟨⟨_, hm, fun a ha => ?_, fun kl hkl => ?_⟩, fun a x hx' => ?_⟩, h.num⟩, hk⟩
  · rcases hd with hd | hd
    · exact Nat.lt_of_lt_of_le (h.lt k hd) hk.size
    · exact hd.2
  · rw [putF_int]
    simp only
    by_cases e : a = v.slot
    · rw [if_pos e, if_pos e]
      refine ⟨sv, rfl, (SlR.of_own hown).keep hkg (fun k hk' hs => ?_), fun k hk' => ?_⟩
      · have := (hown.lt k hk').1
        omega
      · have h1 := hown.lt k hk'
        have := hkg.size
        exact ⟨Or.inr ⟨by omega, by omega⟩, by omega, by omega⟩
    · rw [if_neg e, if_neg e]
      exact (hf a ha).keep hk (fun k hs _ => Or.inr hs) (fun k hd => Or.inl hd)
  · unfold putF at hkl
    by_cases e : kl = .int .u64 v.slot
    · exact ⟨v.slot, us, e⟩
    · rw [if_neg e] at hkl; exact hx kl hkl
  · simp only at hx'
    by_cases e : a = v.slot
    · rw [if_pos e] at hx'; cases hx'
      subst e
      exact ⟨us, rfl, ub, ux, lx⟩
    · rw [if_neg e] at hx'; exact h.map.small a x hx'
set_option maxHeartbeats 2000000 in
theorem accept_ok {D : Nat → Prop} {w : World} {b0 bm N : Nat} {A : AS} {sv : Value} {v : Vt} (h : AccR w D b0 bm N A) (hs : SlR w sv (u8s v.val)) (hb : A.promised ≤ v.ballot) (hl : A.low ≤ v.slot) (us : U1 v.slot) (ub : U1 v.ballot) (ux : U8 v.val) (lx : v.val.length ≤ 1000000) (hN : N < 1000000) :
    Calls Tryz.prog 93 #[.pointer (some ⟨b0, 0, none⟩), .agg #[.int .u64 v.slot, .int .u64 v.ballot, sv]] w fun e w' => e = .returned (.int .i64 0) ∧ ∃ D', AccR w' D' b0 bm (N + 1) (putA A v) ∧ Moved D D' w w' := by
  obtain ⟨ao, c, rfl, hc1, hc2⟩ := hs.form
  simp only [List.length_map] at hs hc1 ⊢
  have hb1 := (Below.refl w.heap.size w).alloc (Nat.le_refl _) (.cells #[.int .u64 v.slot, .int .u64 v.ballot, .slice ao v.val.length c] 80)
  have h1 := (h.below hb1 (Nat.le_refl _))
  obtain ⟨c0, c1, c2, z0, z1⟩ := h1.cell
  have hd : decide (v.ballot < A.promised) = false := decide_eq_false (by omega)
  have hd2 : decide (v.slot < A.low) = false := decide_eq_false (by omega)
  have hb0 := h.lt _ h.d0
  have hbm := h.lt _ h.dm
  have hW : ∀ n : Nat, ∃ W1, W1 = ((w.alloc (.cells #[.int .u64 v.slot, .int .u64 v.ballot, .slice ao v.val.length c] 80)).drewN n).setCell ⟨b0, 0, none⟩ (.int .u64 v.ballot) ∧ AccR W1 D b0 bm N ⟨v.ballot, A.low, A.l⟩ ∧ Keep (fun k => k = b0) w W1 ∧ W1.heap.size = w.heap.size + 1 ∧
      W1.heap[w.heap.size]? = some (.cells #[.int .u64 v.slot, .int .u64 v.ballot, .slice ao v.val.length c] 80 (0, 0)) ∧ SlR W1 (.slice ao v.val.length c) (u8s v.val) := by
    intro n
    have hbn := below_drewN hb1 n
    have hRn := h.below hbn (Nat.le_refl _)
    have hk1 : Keep (fun k => k = b0) w (((w.alloc (.cells #[.int .u64 v.slot, .int .u64 v.ballot, .slice ao v.val.length c] 80)).drewN n).setCell ⟨b0, 0, none⟩ (.int .u64 v.ballot)) := Keep.setCell (S := fun k => k = b0) (Below.keep0 _ hbn) (p := ⟨b0, 0, none⟩) (Or.inl rfl) _
    refine ⟨_, rfl, hRn.setP ub, hk1, by simp [World.setCell], ?_, ?_⟩
    · exact (Below.heap_setCell _ _ _ _ (by show w.heap.size ≠ b0; omega)).trans (heap_alloc_new w _)
    · refine SlR.setOther (hs.below hbn (Nat.le_refl _)) (p := ⟨b0, 0, none⟩) (old := .int .u64 A.promised) hRn.cell.1 (u8s_ne (fun x e => by cases e)) _
  have HW := Lib.hid hW
  clear hb1 h hs hb hl h1 hW
  go_enter Tryz.func93, Tryz.ntmps93
  go_wp2_with fail
  go_quiet (fail)
  go_wp2_with fail
  go_quiet (fail)
  go_wp2_with fail
  obtain ⟨W1, hW1, h1, hk1, hsz, hblk, hsl⟩ := HW.out _
  rw [← hW1]
  clear hW1 HW c0 c1 c2 z0 z1 hd hd2
  obtain ⟨f, hf, hvals, hvx⟩ := h1.map.vals
  have hb0' := h1.lt _ h1.d0
  have hcT : ∀ wm : World, Below W1.heap.size W1 wm → (wm.cell? ⟨b0, 2, none⟩ = some (.map (some bm)) ∧ wm.cell? ⟨w.heap.size, 0, none⟩ = some (.int .u64 v.slot) ∧ wm.cell? ⟨w.heap.size, 1, none⟩ = some (.int .u64 v.ballot) ∧ wm.cell? ⟨w.heap.size, 2, none⟩ = some (.slice ao v.val.length c)) := by
    intro wm hbx
    have hbl := (hbx.block w.heap.size (by omega)).trans hblk
    exact ⟨(hbx.cell (p := ⟨b0, 2, none⟩) hb0').trans h1.cell.2.2.1, World.news_of_block hbl 0 _ rfl, World.news_of_block hbl 1 _ rfl, World.news_of_block hbl 2 _ rfl⟩
  have hstep : ∀ wm : World, Below W1.drew.heap.size W1.drew wm → ∀ vm, ∃ w2, (Instr.mapUpdate 123 (.map (some bm)) (.int .u64 v.slot) vm).run Tryz.prog wm = .ok () w2 ∧ MapR w2 Tryz.prog 39 bm (N + 1) (putF f (.int .u64 v.slot) vm) ∧ wm.grownBy w2 (some bm) ∧
      (w2.cell? ⟨b0, 2, none⟩ = some (.map (some bm)) ∧ w2.cell? ⟨w.heap.size, 0, none⟩ = some (.int .u64 v.slot) ∧ w2.cell? ⟨w.heap.size, 1, none⟩ = some (.int .u64 v.ballot) ∧ w2.cell? ⟨w.heap.size, 2, none⟩ = some (.slice ao v.val.length c)) := by
    intro wm hbx vm
    have hbx' : Below W1.heap.size W1 wm := (Below.refl _ W1).drew.trans hbx
    obtain ⟨w2, g1, g2, g3⟩ := (hf.same (hbx'.block bm hf.lt)).store uKeyed Tryz.underlying123 (by unfold maxLen; omega) (u_key us) (val := vm) (by trivial)
    have hc := hcT wm hbx'
    have hne := h1.ne
    have hbmw : bm < w.heap.size := hbm
    exact ⟨w2, g1, g2, g3, g3.cell hc.1 (by simp; omega), g3.cell hc.2.1 (by simp; omega), g3.cell hc.2.2.1 (by simp; omega), g3.cell hc.2.2.2 (by simp; omega)⟩
  have hcS := hcT W1.drew (Below.refl _ W1).drew
  have HCp := Lib.hid (copied_any (hsl.below (Below.refl _ W1).drew (Nat.le_refl _)) (by omega : v.val.length ≤ 1000000000))
  have HT := Lib.hid hcT
  have HStep := Lib.hid hstep
  have H1 := Lib.hid h1
  have HK1 := Lib.hid hk1
  have HF := Lib.hid hvals
  have HX := Lib.hid hvx
  clear hcT hstep h1 hk1 hvals hvx hf hblk hsl
  go_region_held3 (fun w' => w'.cell? ⟨b0, 2, none⟩ = some (.map (some bm)) ∧ w'.cell? ⟨w.heap.size, 0, none⟩ = some (.int .u64 v.slot) ∧ w'.cell? ⟨w.heap.size, 1, none⟩ = some (.int .u64 v.ballot) ∧ w'.cell? ⟨w.heap.size, 2, none⟩ = some (.slice ao v.val.length c)) (first | go_keep | exact hcS | exact hcB | exact hcC)
    (first
      | (go_at_call 79
         refine HCp.out.mono ?_
         rintro e wm ⟨ko, kc, rfl, hown, hbx⟩
         have hcB := HT.out wm ((Below.refl _ W1).drew.trans hbx)
         obtain ⟨w2, hrun, hm2, hg2, hcC⟩ := HStep.out wm hbx (.agg #[.int .u64 v.slot, .int .u64 v.ballot, .slice ko v.val.length kc])
         have hown := Lib.hid hown
         have hm2 := Lib.hid hm2
         have hg2 := Lib.hid hg2
         have hbx := Lib.hid hbx))
  go_wp2_with fail
  go_ret
  obtain ⟨hA, hkA⟩ := AccR.put H1.out (Nat.le_refl _) ((Below.refl _ W1).drew.trans hbx.out) hown.out hm2.out hg2.out HF.out HX.out us ub ux lx
  refine ⟨rfl, _, hA, ⟨?_, fun k hk => Or.inl hk, fun k hk => ?_⟩⟩
  · exact (HK1.out.mono (fun k _ e => by subst e; exact H1.out.d0)).trans (hkA.mono (fun k _ e => by subst e; exact H1.out.dm))
  · rcases hk with hk | hk
    · exact Or.inl hk
    · exact Or.inr (by omega)
end Go.Proofs.YtgmdedkingampaaGreat

namespace Go.Proofs.YtgmdedkingampaaGreat
open Go.ChangeShapes Go.WideShapes Go.ChangeAt Go.RowKit Go.Maps
set_option maxRecDepth 100000

def vOr (A : AS) (slot : Int) : Vt := (A.l slot).getD ⟨0, 0, []⟩
theorem vOr_some {A : AS} {slot : Int} {v : Vt} (h : A.l slot = some v) : vOr A slot = v := by unfold vOr; rw [h]; rfl
/-- What is found at a slot. -/
theorem AccR.look {D : Nat → Prop} {w : World} {b0 bm N : Nat} {A : AS} (h : AccR w D b0 bm N A) {slot : Int} (us : U1 slot) : ∃ ao c,
    (∀ w' : World, w'.heap[bm]? = w.heap[bm]? → (Instr.lookup 123 (.map (some bm)) (.int .u64 slot) true).run Tryz.prog w' = .ok (.tuple #[.agg #[.int .u64 (vOr A slot).slot, .int .u64 (vOr A slot).ballot, .slice ao (vOr A slot).val.length c], .bool (A.l slot).isSome]) w') ∧
    (∀ w' : World, w'.heap[bm]? = w.heap[bm]? → (Instr.lookup 123 (.map (some bm)) (.int .u64 slot) false).run Tryz.prog w' = .ok (.agg #[.int .u64 (vOr A slot).slot, .int .u64 (vOr A slot).ballot, .slice ao (vOr A slot).val.length c]) w') ∧
    SlR w (.slice ao (vOr A slot).val.length c) (u8s (vOr A slot).val) ∧ (vOr A slot).val.length ≤ 1000000 ∧ (vOr A slot).val.length ≤ c ∧ c ≤ 9223372036854775807 := by
  obtain ⟨f, hf, hv, hx⟩ := h.map.vals
  have hval := hv slot us
  have h1 := fun (w' : World) (hw : w'.heap[bm]? = w.heap[bm]?) => (hf.same hw).look_ok uKeyed Tryz.underlying123 (zeroVote w') (u_key us)
  have h2 := fun (w' : World) (hw : w'.heap[bm]? = w.heap[bm]?) => (hf.same hw).look uKeyed Tryz.underlying123 (zeroVote w') (u_key us)
  cases hl : A.l slot with
  | none =>
    rw [hl] at hval
    have hval : f (.int .u64 slot) = none := hval
    rw [hval] at h1 h2
    have e : vOr A slot = ⟨0, 0, []⟩ := by unfold vOr; rw [hl]; rfl
    rw [e]
    exact ⟨none, 0, h1, h2, SlR.nil w, by simp, by simp, by omega⟩
  | some v =>
    rw [hl] at hval
    obtain ⟨sv, e1, e2, _⟩ := hval
    obtain ⟨hs1, hs2, hs3, hs4, hs5⟩ := h.map.small slot v hl
    rw [e1] at h1 h2
    obtain ⟨ao, c, rfl, g1, g2⟩ := e2.form
    simp only [List.length_map] at e2 g1 h1 h2
    have e : vOr A slot = v := vOr_some hl
    rw [e]
    exact ⟨ao, c, h1, h2, e2, hs5, g1, g2⟩
/-- A vote in new memory, and whether there is one. -/
def RetVd (w : World) (v : Vt) (is : Bool) (e : Ending) (w' : World) : Prop := ∃ ao c, e = .returned (.tuple #[.agg #[.int .u64 v.slot, .int .u64 v.ballot, .slice ao v.val.length c], .bool is]) ∧ w'.ownsRow w.heap.size 5 1 (.slice ao v.val.length c) v.val.length (u8s v.val) ∧ Below w.heap.size w w'
set_option maxHeartbeats 1000000 in
theorem voted_any {D : Nat → Prop} {w : World} {b0 bm N : Nat} {A : AS} (h : AccR w D b0 bm N A) {slot : Int} (us : U1 slot) :
    Calls Tryz.prog 92 #[.pointer (some ⟨b0, 0, none⟩), .int .u64 slot] w (RetVd w (vOr A slot) (A.l slot).isSome) := by
  obtain ⟨ao, c, hl, _, hsl, hlen, hc1, hc2⟩ := h.look us
  generalize (A.l slot).isSome = is at *
  generalize vOr A slot = v at *
  have hb1 := (Below.refl w.heap.size w).alloc (Nat.le_refl _) (.cells #[.int .u64 0, .int .u64 0, .slice none 0 0] 80)
  have hs1 : (w.alloc (.cells #[.int .u64 0, .int .u64 0, .slice none 0 0] 80)).heap.size = w.heap.size + 1 := by simp
  have hl1 := hl _ (hb1.block bm (h.lt _ h.dm))
  have c2 := (hb1.cell (p := ⟨b0, 2, none⟩) (h.lt _ h.d0)).trans h.cell.2.2.1
  have hk1 := heap_alloc_new w (.cells #[.int .u64 0, .int .u64 0, .slice none 0 0] 80)
  have hb2 := hb1.alloc (by simp) (.cells #[.int .u64 v.slot, .int .u64 v.ballot, .slice ao v.val.length c] 80)
  have HC := Lib.hid (copied_any (hsl.below hb2 (Nat.le_refl _)) (by omega : v.val.length ≤ 1000000000))
  have hk2 : ((w.alloc (.cells #[.int .u64 0, .int .u64 0, .slice none 0 0] 80)).alloc (.cells #[.int .u64 v.slot, .int .u64 v.ballot, .slice ao v.val.length c] 80)).heap[w.heap.size]? = _ := (Below.heap_alloc _ _ _ (by simp)).trans hk1
  have HB2 := Lib.hid hb2
  have HK2 := Lib.hid hk2
  clear hb1 hb2 hk2 hk1 h hl hsl
  go_enter Tryz.func92, Tryz.ntmps92
  go_wp2_with fail
  refine HC.out.mono ?_
  rintro e w3 ⟨ko, kc, rfl, hown, hb3⟩
  have k2 := (hb3.block w.heap.size (by simp; omega)).trans HK2.out
  have r0 : w3.cell? ⟨w.heap.size, 0, none⟩ = some (.int .u64 0) := World.news_of_block k2 0 _ rfl
  have r1 : w3.cell? ⟨w.heap.size, 1, none⟩ = some (.int .u64 0) := World.news_of_block k2 1 _ rfl
  have r2 : w3.cell? ⟨w.heap.size, 2, none⟩ = some (.slice none 0 0) := World.news_of_block k2 2 _ rfl
  have y0 : w3.frozen? ⟨w.heap.size, 0, none⟩ = false := by simp [World.frozen?, k2]
  have y1 : w3.frozen? ⟨w.heap.size, 1, none⟩ = false := by simp [World.frozen?, k2]
  have y2 : w3.frozen? ⟨w.heap.size, 2, none⟩ = false := by simp [World.frozen?, k2]
  have b1 := heap_setCell_same _ w.heap.size 0 _ _ (.int .u64 v.slot) k2
  have b2 := heap_setCell_same _ w.heap.size 1 _ _ (.int .u64 v.ballot) b1
  have b3 := heap_setCell_same _ w.heap.size 2 _ _ (.slice ko v.val.length kc) b2
  have S0 := Lib.hid (World.news_of_block b3 0 _ rfl)
  have S1 := Lib.hid (World.news_of_block b3 1 _ rfl)
  have S2 := Lib.hid (World.news_of_block b3 2 _ rfl)
  have hge : ∀ k, (Value.slice ko v.val.length kc).ownBlock = some k → w.heap.size + 2 ≤ k := fun k hk => by have := (hown.lt k hk).1; simp at this; omega
  have HO := Lib.hid (hown.weaken (base' := w.heap.size) (by have := HB2.out.size; exact this))
  have HG := Lib.hid hge
  have HB3 := Lib.hid (HB2.out.trans (hb3.mono HB2.out.size))
  clear k2 b1 b2 b3 hown hb3 hge
  go_wp2_with fail
  obtain ⟨W4, HW4⟩ : ∃ x, x = ((w3.setCell ⟨w.heap.size, 0, none⟩ (.int .u64 v.slot)).setCell ⟨w.heap.size, 1, none⟩ (.int .u64 v.ballot)).setCell ⟨w.heap.size, 2, none⟩ (.slice ko v.val.length kc) := ⟨_, rfl⟩
  rw [← HW4] at S0 S1 S2 ⊢
  have s0 : W4.cell? ⟨w.heap.size, 0, none⟩ = some (.int .u64 v.slot) := S0.out
  have s1 : W4.cell? ⟨w.heap.size, 1, none⟩ = some (.int .u64 v.ballot) := S1.out
  have s2 : W4.cell? ⟨w.heap.size, 2, none⟩ = some (.slice ko v.val.length kc) := S2.out
  refine bodyPost_ret (v := .tuple #[.agg #[.int .u64 v.slot, .int .u64 v.ballot, .slice ko v.val.length kc], .bool is]) (by simp [results, Tryz.results92, go_sem, s0, s1, s2]) rfl ?_
  subst HW4
  refine ⟨ko, kc, rfl, ?_, ?_⟩
  · refine own_keep HO.out (fun b hb => ?_)
    have := HG.out b hb
    repeat rw [Below.heap_setCell _ _ _ _ (by simp; omega)]
  · exact ((HB3.out.setCell (by simp) _).setCell (by simp) _).setCell (by simp) _

/-- An acceptor at p, all of whose blocks are of D; its votes' slots are few. -/
def AccO (p : Value) (D : Nat → Prop) (w : World) (N : Nat) (A : AS) : Prop := (∃ b0 bm n, p = .pointer (some ⟨b0, 0, none⟩) ∧ AccR w D b0 bm n A ∧ n ≤ N) ∧ ∃ K : List Int, K.length ≤ N ∧ ∀ x, (A.l x).isSome = true → x ∈ K
theorem AccO.step {p : Value} {D : Nat → Prop} {w w' : World} {N : Nat} {A : AS} (h : AccO p D w N A) (hb : Below w.heap.size w w') : AccO p D w' N A := by
  obtain ⟨⟨b0, bm, n, h1, h2, h3⟩, h4⟩ := h
  exact ⟨⟨b0, bm, n, h1, h2.below hb (Nat.le_refl _), h3⟩, h4⟩
theorem AccO.lt {p : Value} {D : Nat → Prop} {w : World} {N : Nat} {A : AS} (h : AccO p D w N A) : ∀ k, D k → k < w.heap.size := by
  obtain ⟨⟨b0, bm, n, h1, h2, h3⟩, h4⟩ := h; exact h2.lt
theorem AccO.mono {p : Value} {D : Nat → Prop} {w : World} {N M : Nat} {A : AS} (h : AccO p D w N A) (hm : N ≤ M) : AccO p D w M A := by
  obtain ⟨⟨b0, bm, n, h1, h2, h3⟩, K, h4, h5⟩ := h
  exact ⟨⟨b0, bm, n, h1, h2, by omega⟩, K, by omega, h5⟩
theorem anew_o (w : World) : Calls Tryz.prog 62 #[] w fun e w' => ∃ b0 D, e = .returned (.pointer (some ⟨b0, 0, none⟩)) ∧ AccO (.pointer (some ⟨b0, 0, none⟩)) D w' 0 emptyAS ∧ (∀ k, D k → w.heap.size ≤ k) ∧ Below w.heap.size w w' :=
  (anew_any w).mono fun _ _ ⟨h1, h2, h3⟩ => ⟨_, _, h1, ⟨⟨_, _, _, rfl, h2, Nat.le_refl _⟩, [], Nat.le_refl _, fun x hx => by cases hx⟩, fun k hk => hk.1, h3⟩
theorem AccO.promised {p : Value} {D : Nat → Prop} {w : World} {N : Nat} {A : AS} (h : AccO p D w N A) : Calls Tryz.prog 42 #[p] w fun e w' => e = .returned (.int .u64 A.promised) ∧ w = w' := by
  obtain ⟨⟨b0, bm, n, rfl, h2, h3⟩, h4⟩ := h; exact promised_any h2
theorem AccO.low {p : Value} {D : Nat → Prop} {w : World} {N : Nat} {A : AS} (h : AccO p D w N A) : Calls Tryz.prog 89 #[p] w fun e w' => e = .returned (.int .u64 A.low) ∧ w = w' := by
  obtain ⟨⟨b0, bm, n, rfl, h2, h3⟩, h4⟩ := h; exact alow_any h2
theorem AccO.voted {p : Value} {D : Nat → Prop} {w : World} {N : Nat} {A : AS} (h : AccO p D w N A) {slot : Int} (us : U1 slot) : Calls Tryz.prog 92 #[p, .int .u64 slot] w (RetVd w (vOr A slot) (A.l slot).isSome) := by
  obtain ⟨⟨b0, bm, n, rfl, h2, h3⟩, h4⟩ := h; exact voted_any h2 us
theorem AccO.accept {p : Value} {D : Nat → Prop} {w : World} {N : Nat} {A : AS} (h : AccO p D w N A) {sv : Value} {v : Vt} (hs : SlR w sv (u8s v.val)) (us : U1 v.slot) (ub : U1 v.ballot) (ux : U8 v.val) (lx : v.val.length ≤ 1000000) (hN : N < 1000000) :
    Calls Tryz.prog 93 #[p, .agg #[.int .u64 v.slot, .int .u64 v.ballot, sv]] w fun e w' => e = .returned (.int .i64 (accE A v)) ∧ ∃ D', AccO p D' w' (N + 1) (accR A v) ∧ Moved D D' w w' := by
  have h0 := h
  obtain ⟨⟨b0, bm, n, rfl, h2, h3⟩, K, h4, h5⟩ := h
  unfold accR accE
  by_cases hb : v.ballot < A.promised
  · rw [if_pos hb, if_neg (by decide)]
    exact (accept_old h2 hs hb).mono fun e w' ⟨e1, hb⟩ => ⟨e1, D, (h0.step hb).mono (Nat.le_succ _), Moved.of (Below.keep0 D hb)⟩
  · rw [if_neg hb]
    by_cases hl : v.slot < A.low
    · rw [if_pos hl, if_neg (by decide)]
      exact (accept_range h2 hs (by omega) hl).mono fun e w' ⟨e1, hb⟩ => ⟨e1, D, (h0.step hb).mono (Nat.le_succ _), Moved.of (Below.keep0 D hb)⟩
    · rw [if_neg hl, if_pos rfl]
      refine (accept_ok h2 hs (by omega) (by omega) us ub ux lx (by omega)).mono fun e w' ⟨e1, D', g1, g2⟩ => ⟨e1, D', ⟨⟨b0, bm, _, rfl, g1, by omega⟩, v.slot :: K, by simp; omega, fun x hx => ?_⟩, g2⟩
      unfold putA at hx
      simp only at hx
      by_cases e : x = v.slot
      · subst e; simp
      · rw [if_neg e] at hx; exact List.mem_cons_of_mem _ (h5 x hx)
end Go.Proofs.YtgmdedkingampaaGreat
