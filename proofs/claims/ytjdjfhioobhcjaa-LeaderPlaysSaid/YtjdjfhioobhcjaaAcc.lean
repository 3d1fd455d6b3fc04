/-
  Package acceptor: how one lies in memory; New, Promised, Low, promise, copied.
-/
import Derived.Test.YtjdjfhioobhcjaaLib5
import Derived.Test.YtjdjfhioobhcjaaClo
import Derived.Test.YtjdjfhioobhcjaaProg
namespace Go.Proofs.Ytjdjfhioobhcjaa
open Go.ChangeShapes Go.WideShapes Go.ChangeAt Go.RowKit Go.Maps
set_option maxRecDepth 100000

/-- A vote. -/
structure Vt where
  slot : Int
  ballot : Int
  val : List Int
structure AS where
  promised : Int
  low : Int
  l : Int → Option Vt
theorem zeroVote (w : World) : (zeroValue 39).run Try.prog w = .ok (.agg #[.int .u64 0, .int .u64 0, .slice none 0 0]) w := by kernel_rfl
theorem Try.voteInfo : (Try.prog.info? 39).map (fun i => (i.zero, i.size, i.bytes)) = some (some (.agg #[.int .u64 0, .int .u64 0, .slice none 0 0]), 3, 40) := by kernel_rfl

/-- How a vote lies in a map. -/
def VtV (w : World) (D : Nat → Prop) (b0 bm : Nat) (fv : Option Value) : Option Vt → Prop
  | none => fv = none
  | some v => ∃ sv, fv = some (.agg #[.int .u64 v.slot, .int .u64 v.ballot, sv]) ∧ SlR w sv (u8s v.val) ∧ ∀ k, sv.ownBlock = some k → D k ∧ k ≠ b0 ∧ k ≠ bm
def VtOk (a : Int) (v : Vt) : Prop := v.slot = a ∧ U1 v.ballot ∧ U8 v.val ∧ v.val.length ≤ 1000000
/-- A map of votes. -/
structure VMap (w : World) (D : Nat → Prop) (b0 bm N : Nat) (l : Int → Option Vt) : Prop where
  vals : ∃ f, MapR w Try.prog 29 bm N f ∧ (∀ a : Int, U1 a → VtV w D b0 bm (f (.int .u64 a)) (l a)) ∧ ∀ kl, (f kl).isSome = true → ∃ a : Int, U1 a ∧ kl = .int .u64 a
  small : ∀ a v, l a = some v → U1 a ∧ VtOk a v
structure AccR (w : World) (D : Nat → Prop) (b0 bm N : Nat) (A : AS) : Prop where
  cells : w.heap[b0]? = some (.cells #[.int .u64 A.promised, .int .u64 A.low, .map (some bm)] 107 (0, 0))
  lt : ∀ k, D k → k < w.heap.size
  d0 : D b0
  dm : D bm
  ne : bm ≠ b0
  map : VMap w D b0 bm N A.l
  num : U1 A.promised ∧ U1 A.low
def emptyAS : AS := ⟨0, 0, fun _ => none⟩
theorem VtV.keep {S D D' : Nat → Prop} {w w' : World} {b0 bm : Nat} {fv : Option Value} {mx : Option Vt} (hk : Keep S w w') (hS : ∀ k, S k → D k → k = b0 ∨ k = bm) (hD : ∀ k, D k → D' k) (h : VtV w D b0 bm fv mx) : VtV w' D' b0 bm fv mx := by
  cases mx with
  | none => exact h
  | some s =>
    obtain ⟨sv, h1, h2, h3⟩ := h
    refine ⟨sv, h1, h2.keep hk (fun k hk' hs => ?_), fun k hk => ⟨hD k (h3 k hk).1, (h3 k hk).2⟩⟩
    obtain ⟨g1, g0, g2⟩ := h3 k hk'
    rcases hS k hs g1 with h | h
    · exact g0 h
    · exact g2 h
theorem VMap.keep {S D D' : Nat → Prop} {w w' : World} {b0 bm N : Nat} {l : Int → Option Vt} (h : VMap w D b0 bm N l) (hk : Keep S w w') (hS : ∀ k, S k → D k → k = b0) (hm : D bm) (hne : bm ≠ b0) (hD : ∀ k, D k → D' k) : VMap w' D' b0 bm N l := by
  obtain ⟨⟨f, hf, hv, hx⟩, h2⟩ := h
  exact ⟨⟨f, hf.keep hk (fun hs => hne (hS _ hs hm)), fun a ha => (hv a ha).keep hk (fun k hs hd => Or.inl (hS k hs hd)) hD, hx⟩, h2⟩
theorem AccR.keep {S D : Nat → Prop} {w w' : World} {b0 bm N : Nat} {A : AS} (h : AccR w D b0 bm N A) (hk : Keep S w w') (hS : ∀ k, S k → ¬ D k) : AccR w' D b0 bm N A :=
  ⟨(hk.block b0 (h.lt _ h.d0) (fun hs => hS _ hs h.d0)).trans h.cells, fun k hd => Nat.lt_of_lt_of_le (h.lt k hd) hk.size, h.d0, h.dm, h.ne, h.map.keep hk (fun k hs hd => absurd hd (hS k hs)) h.dm h.ne (fun _ h => h), h.num⟩
theorem AccR.below {B : Nat} {D : Nat → Prop} {w w' : World} {b0 bm N : Nat} {A : AS} (h : AccR w D b0 bm N A) (hb : Below B w w') (hB : w.heap.size ≤ B) : AccR w' D b0 bm N A := by
  refine h.keep (S := fun k => w.heap.size ≤ k) (Below.keep hb (fun k hk h => by omega)) (fun k hk hd => ?_)
  have := h.lt k hd
  omega
theorem AccR.cell {D : Nat → Prop} {w : World} {b0 bm N : Nat} {A : AS} (h : AccR w D b0 bm N A) : w.cell? ⟨b0, 0, none⟩ = some (.int .u64 A.promised) ∧ w.cell? ⟨b0, 1, none⟩ = some (.int .u64 A.low) ∧ w.cell? ⟨b0, 2, none⟩ = some (.map (some bm)) ∧
    w.frozen? ⟨b0, 0, none⟩ = false ∧ w.frozen? ⟨b0, 1, none⟩ = false := by
  have := h.cells
  simp [World.cell?, World.frozen?, this]
theorem AccR.wider {D D' : Nat → Prop} {w : World} {b0 bm N M : Nat} {A : AS} (h : AccR w D b0 bm N A) (hD : ∀ k, D k → D' k) (hlt : ∀ k, D' k → k < w.heap.size) (hM : N ≤ M) : AccR w D' b0 bm M A := by
  obtain ⟨⟨f, hf, hv, hx⟩, h2⟩ := h.map
  exact ⟨h.cells, hlt, hD _ h.d0, hD _ h.dm, h.ne, ⟨⟨f, hf.mono hM, fun a ha => (hv a ha).keep (Keep.refl (fun _ => False) w) (fun k hk => hk.elim) hD, hx⟩, h2⟩, h.num⟩
theorem AccR.setP {D : Nat → Prop} {w : World} {b0 bm N : Nat} {A : AS} (h : AccR w D b0 bm N A) {x : Int} (hx : U1 x) : AccR (w.setCell ⟨b0, 0, none⟩ (.int .u64 x)) D b0 bm N ⟨x, A.low, A.l⟩ := by
  have hk : Keep (fun k => k = b0) w (w.setCell ⟨b0, 0, none⟩ (.int .u64 x)) := Keep.setCell (S := fun k => k = b0) (Keep.refl _ _) (p := ⟨b0, 0, none⟩) (Or.inl rfl) _
  exact ⟨by simpa using heap_setCell_same w b0 0 _ _ (.int .u64 x) h.cells, fun k hd => Nat.lt_of_lt_of_le (h.lt k hd) hk.size, h.d0, h.dm, h.ne, h.map.keep hk (fun k hs _ => hs) h.dm h.ne (fun _ h => h), hx, h.num.2⟩
theorem AccR.setL {D : Nat → Prop} {w : World} {b0 bm N : Nat} {A : AS} (h : AccR w D b0 bm N A) {x : Int} (hx : U1 x) : AccR (w.setCell ⟨b0, 1, none⟩ (.int .u64 x)) D b0 bm N ⟨A.promised, x, A.l⟩ := by
  have hk : Keep (fun k => k = b0) w (w.setCell ⟨b0, 1, none⟩ (.int .u64 x)) := Keep.setCell (S := fun k => k = b0) (Keep.refl _ _) (p := ⟨b0, 1, none⟩) (Or.inl rfl) _
  exact ⟨by simpa using heap_setCell_same w b0 1 _ _ (.int .u64 x) h.cells, fun k hd => Nat.lt_of_lt_of_le (h.lt k hd) hk.size, h.d0, h.dm, h.ne, h.map.keep hk (fun k hs _ => hs) h.dm h.ne (fun _ h => h), h.num.1, hx⟩

theorem anew_any (w : World) : Calls Try.prog 16 #[] w fun e w' => e = .returned (.pointer (some ⟨w.heap.size + 1, 0, none⟩)) ∧ AccR w' (fun k => w.heap.size ≤ k ∧ k < w.heap.size + 2) (w.heap.size + 1) w.heap.size 0 emptyAS ∧ Below w.heap.size w w' := by
  have hmm := @run_makeMap Try.prog
  go_enter Try.func16, Try.ntmps16
  go_wp2
  go_ret
  have e1 : ((w.alloc (.map #[] 0)).heap.size) = w.heap.size + 1 := by simp
  refine ⟨by simp, ⟨?_, fun k hk => by simp; omega, by constructor <;> omega, by constructor <;> omega, by omega, ⟨⟨fun _ => none, (MapR.made w Try.prog 29).same (Below.heap_alloc _ _ _ (by simp)), fun _ _ => rfl, by intro kl h; cases h⟩, by intro a v h; cases h⟩, by constructor <;> constructor <;> simp [emptyAS]⟩, ((Below.refl _ _).alloc (Nat.le_refl _) _).alloc (by simp) _⟩
  have := heap_alloc_new (w.alloc (.map #[] 0)) (.cells #[.int .u64 0, .int .u64 0, .map (some w.heap.size)] 107 (0, 0))
  rw [e1] at this
  exact this
theorem promised_any {D : Nat → Prop} {w : World} {b0 bm N : Nat} {A : AS} (h : AccR w D b0 bm N A) : Calls Try.prog 19 #[.pointer (some ⟨b0, 0, none⟩)] w fun e w' => e = .returned (.int .u64 A.promised) ∧ w = w' := by
  obtain ⟨c0, c1, c2, _⟩ := h.cell
  clear h
  go_enter Try.func19, Try.ntmps19
  go_wp2
  go_ret
  exact ⟨rfl, rfl⟩
theorem alow_any {D : Nat → Prop} {w : World} {b0 bm N : Nat} {A : AS} (h : AccR w D b0 bm N A) : Calls Try.prog 21 #[.pointer (some ⟨b0, 0, none⟩)] w fun e w' => e = .returned (.int .u64 A.low) ∧ w = w' := by
  obtain ⟨c0, c1, c2, _⟩ := h.cell
  clear h
  go_enter Try.func21, Try.ntmps21
  go_wp2
  go_ret
  exact ⟨rfl, rfl⟩
theorem promise_old {D : Nat → Prop} {w : World} {b0 bm N : Nat} {A : AS} (h : AccR w D b0 bm N A) {x : Int} (hx : x < A.promised) : Calls Try.prog 51 #[.pointer (some ⟨b0, 0, none⟩), .int .u64 x] w fun e w' => e = .returned (.int .i64 32) ∧ w = w' := by
  obtain ⟨c0, c1, c2, _⟩ := h.cell
  clear h
  go_enter Try.func51, Try.ntmps51
  go_wp2
  go_ret
  exact ⟨rfl, rfl⟩
theorem promise_ok {D : Nat → Prop} {w : World} {b0 bm N : Nat} {A : AS} (h : AccR w D b0 bm N A) {x : Int} (hx : A.promised ≤ x) (hu : U1 x) : Calls Try.prog 51 #[.pointer (some ⟨b0, 0, none⟩), .int .u64 x] w fun e w' => e = .returned (.int .i64 0) ∧ AccR w' D b0 bm N ⟨x, A.low, A.l⟩ ∧ Keep (fun k => k = b0) w w' := by
  obtain ⟨c0, c1, c2, f0, f1⟩ := h.cell
  have H := Lib.hid h
  have hn : ¬ x < A.promised := by omega
  clear h
  go_enter Try.func51, Try.ntmps51
  go_wp2
  go_ret
  exact ⟨rfl, H.out.setP hu, Keep.setCell (S := fun k => k = b0) (Keep.refl _ _) (p := ⟨b0, 0, none⟩) (Or.inl rfl) _⟩

/-- A vote in new memory. -/
def RetVt (w : World) (v : Vt) (e : Ending) (w' : World) : Prop := ∃ ao c, e = .returned (.agg #[.int .u64 v.slot, .int .u64 v.ballot, .slice ao v.val.length c]) ∧ w'.ownsRow w.heap.size 5 1 (.slice ao v.val.length c) v.val.length (u8s v.val) ∧ Below w.heap.size w w'
set_option maxHeartbeats 400000 in
theorem copied_any {sv : Value} {v : Vt} {w : World} (h : SlR w sv (u8s v.val)) (hl : v.val.length ≤ 1000000000) :
    Calls Try.prog 54 #[.agg #[.int .u64 v.slot, .int .u64 v.ballot, sv]] w (RetVt w v) := by
  obtain ⟨slot, ballot, xs⟩ := v
  simp only at h hl
  obtain ⟨ao, c, rfl, _, _⟩ := id h.form
  simp only [List.length_map] at h
  have hb1 := (Below.refl w.heap.size w).alloc (Nat.le_refl _) (.cells #[.int .u64 slot, .int .u64 ballot, .slice ao xs.length c] 39)
  have hb2 := hb1.alloc hb1.size (.cells #[.int .u64 0, .int .u64 0, .slice none 0 0] 39)
  have hs1 : (w.alloc (.cells #[.int .u64 slot, .int .u64 ballot, .slice ao xs.length c] 39)).heap.size = w.heap.size + 1 := by simp
  have HC := Lib.hid (cloneB_any (h.below hb2 (Nat.le_refl _)) hl)
  have hk1 : ((w.alloc (.cells #[.int .u64 slot, .int .u64 ballot, .slice ao xs.length c] 39)).alloc (.cells #[.int .u64 0, .int .u64 0, .slice none 0 0] 39)).heap[w.heap.size]? = some (.cells #[.int .u64 slot, .int .u64 ballot, .slice ao xs.length c] 39 (0, 0)) :=
    (Below.heap_alloc _ _ _ (by simp)).trans (heap_alloc_new w _)
  have hk2 : ((w.alloc (.cells #[.int .u64 slot, .int .u64 ballot, .slice ao xs.length c] 39)).alloc (.cells #[.int .u64 0, .int .u64 0, .slice none 0 0] 39)).heap[w.heap.size + 1]? = some (.cells #[.int .u64 0, .int .u64 0, .slice none 0 0] 39 (0, 0)) := by
    have := heap_alloc_new (w.alloc (.cells #[.int .u64 slot, .int .u64 ballot, .slice ao xs.length c] 39)) (.cells #[.int .u64 0, .int .u64 0, .slice none 0 0] 39 (0, 0))
    rw [hs1] at this; exact this
  have HB2 := Lib.hid hb2
  have HK1 := Lib.hid hk1
  have HK2 := Lib.hid hk2
  clear hb1 hb2 hk1 hk2 h
  go_enter Try.func54, Try.ntmps54
  go_wp2_with fail
  refine HC.out.mono ?_
  rintro e w3 ⟨v', rfl, hown, hb3⟩
  obtain ⟨ko, kc, rfl, _, _⟩ := own_form hown
  have k1 := (hb3.block w.heap.size (by simp; omega)).trans HK1.out
  have k2 := (hb3.block (w.heap.size + 1) (by simp)).trans HK2.out
  have q0 : w3.cell? ⟨w.heap.size, 0, none⟩ = some (.int .u64 slot) := by simp [World.cell?, k1]
  have q1 : w3.cell? ⟨w.heap.size, 1, none⟩ = some (.int .u64 ballot) := by simp [World.cell?, k1]
  have q2 : w3.cell? ⟨w.heap.size, 2, none⟩ = some (.slice ao xs.length c) := by simp [World.cell?, k1]
  have z2 : w3.frozen? ⟨w.heap.size, 2, none⟩ = false := by simp [World.frozen?, k1]
  have r0 : w3.cell? ⟨w.heap.size + 1, 0, none⟩ = some (.int .u64 0) := by simp [World.cell?, k2]
  have r1 : w3.cell? ⟨w.heap.size + 1, 1, none⟩ = some (.int .u64 0) := by simp [World.cell?, k2]
  have r2 : w3.cell? ⟨w.heap.size + 1, 2, none⟩ = some (.slice none 0 0) := by simp [World.cell?, k2]
  have y0 : w3.frozen? ⟨w.heap.size + 1, 0, none⟩ = false := by simp [World.frozen?, k2]
  have y1 : w3.frozen? ⟨w.heap.size + 1, 1, none⟩ = false := by simp [World.frozen?, k2]
  have y2 : w3.frozen? ⟨w.heap.size + 1, 2, none⟩ = false := by simp [World.frozen?, k2]
  have HO := Lib.hid (hown.weaken (base' := w.heap.size) (by have := HB2.out.size; exact this))
  have hge : ∀ k, (Value.slice ko xs.length kc).ownBlock = some k → w.heap.size + 2 ≤ k := fun k hk => by have := (hown.lt k hk).1; simp at this; omega
  have HG := Lib.hid hge
  have HB3 := Lib.hid (HB2.out.trans (hb3.mono HB2.out.size))
  have k3 : (w3.setCell ⟨w.heap.size, 2, none⟩ (.slice ko xs.length kc)).heap[w.heap.size + 1]? = _ := (Below.heap_setCell _ _ _ _ (by simp)).trans k2
  have b1 := heap_setCell_same _ (w.heap.size + 1) 0 _ _ (.int .u64 slot) k3
  have b2 := heap_setCell_same _ (w.heap.size + 1) 1 _ _ (.int .u64 ballot) b1
  have b3 := heap_setCell_same _ (w.heap.size + 1) 2 _ _ (.slice ko xs.length kc) b2
  have s0 := World.news_of_block b3 0 _ rfl
  have s1 := World.news_of_block b3 1 _ rfl
  have s2 := World.news_of_block b3 2 _ rfl
  have S0 := Lib.hid s0
  have S1 := Lib.hid s1
  have S2 := Lib.hid s2
  clear k1 k2 k3 b1 b2 b3 s0 s1 s2 hown hb3 hge
  go_wp2_with fail
  obtain ⟨W4, HW4⟩ : ∃ x, x = (((w3.setCell ⟨w.heap.size, 2, none⟩ (.slice ko xs.length kc)).setCell ⟨w.heap.size + 1, 0, none⟩ (.int .u64 slot)).setCell ⟨w.heap.size + 1, 1, none⟩ (.int .u64 ballot)).setCell ⟨w.heap.size + 1, 2, none⟩ (.slice ko xs.length kc) := ⟨_, rfl⟩
  rw [← HW4] at S0 S1 S2 ⊢
  have s0 : W4.cell? ⟨w.heap.size + 1, 0, none⟩ = some (.int .u64 slot) := S0.out
  have s1 : W4.cell? ⟨w.heap.size + 1, 1, none⟩ = some (.int .u64 ballot) := S1.out
  have s2 : W4.cell? ⟨w.heap.size + 1, 2, none⟩ = some (.slice ko xs.length kc) := S2.out
  refine bodyPost_ret (v := .agg #[.int .u64 slot, .int .u64 ballot, .slice ko xs.length kc]) (by simp [results, Try.results54, go_sem, s0, s1, s2]) rfl ?_
  subst HW4
  refine ⟨ko, kc, rfl, ?_, ?_⟩
  · refine own_keep HO.out (fun b hb => ?_)
    have := HG.out b hb
    repeat rw [Below.heap_setCell _ _ _ _ (by simp; omega)]
  · exact (((HB3.out.setCell (by simp) _).setCell (by simp) _).setCell (by simp) _).setCell (by simp) _
end Go.Proofs.Ytjdjfhioobhcjaa
