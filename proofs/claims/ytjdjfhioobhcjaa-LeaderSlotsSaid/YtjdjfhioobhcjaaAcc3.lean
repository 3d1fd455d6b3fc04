/-
  Package acceptor: Voted; an acceptor as an object.
-/
import Derived.Test.YtjdjfhioobhcjaaAcc2
namespace Go.Proofs.Ytjdjfhioobhcjaa
open Go.ChangeShapes Go.WideShapes Go.ChangeAt Go.RowKit Go.Maps
set_option maxRecDepth 100000

def vOr (A : AS) (slot : Int) : Vt := (A.l slot).getD ⟨0, 0, []⟩
theorem vOr_some {A : AS} {slot : Int} {v : Vt} (h : A.l slot = some v) : vOr A slot = v := by unfold vOr; rw [h]; rfl
/-- What is found at a slot. -/
theorem AccR.look {D : Nat → Prop} {w : World} {b0 bm N : Nat} {A : AS} (h : AccR w D b0 bm N A) {slot : Int} (us : U1 slot) : ∃ ao c,
    (∀ w' : World, w'.heap[bm]? = w.heap[bm]? → (Instr.lookup 105 (.map (some bm)) (.int .u64 slot) true).run Try.prog w' = .ok (.tuple #[.agg #[.int .u64 (vOr A slot).slot, .int .u64 (vOr A slot).ballot, .slice ao (vOr A slot).val.length c], .bool (A.l slot).isSome]) w') ∧
    (∀ w' : World, w'.heap[bm]? = w.heap[bm]? → (Instr.lookup 105 (.map (some bm)) (.int .u64 slot) false).run Try.prog w' = .ok (.agg #[.int .u64 (vOr A slot).slot, .int .u64 (vOr A slot).ballot, .slice ao (vOr A slot).val.length c]) w') ∧
    SlR w (.slice ao (vOr A slot).val.length c) (u8s (vOr A slot).val) ∧ (vOr A slot).val.length ≤ 1000000 ∧ (vOr A slot).val.length ≤ c ∧ c ≤ 9223372036854775807 := by
  obtain ⟨f, hf, hv, hx⟩ := h.map.vals
  have hval := hv slot us
  have h1 := fun (w' : World) (hw : w'.heap[bm]? = w.heap[bm]?) => (hf.same hw).look_ok uKeyed Try.underlying105 (zeroVote w') (u_key us)
  have h2 := fun (w' : World) (hw : w'.heap[bm]? = w.heap[bm]?) => (hf.same hw).look uKeyed Try.underlying105 (zeroVote w') (u_key us)
  cases hl : A.l slot with
  | none =>
    rw [hl] at hval
    have hval : f (.int .u64 slot) = none := hval
    rw [hval] at h1 h2
    have e : vOr A slot = ⟨0, 0, []⟩ := by unfold vOr; rw [hl]; rfl
    rw [e]
    exact ⟨none, 0, h1, h2, SlR.nil w, by simp, by simp, by omega⟩
  | some v =>
    rw [hl] at hval
    obtain ⟨sv, e1, e2, _⟩ := hval
    obtain ⟨hs1, hs2, hs3, hs4, hs5⟩ := h.map.small slot v hl
    rw [e1] at h1 h2
    obtain ⟨ao, c, rfl, g1, g2⟩ := e2.form
    simp only [List.length_map] at e2 g1 h1 h2
    have e : vOr A slot = v := vOr_some hl
    rw [e]
    exact ⟨ao, c, h1, h2, e2, hs5, g1, g2⟩
/-- A vote in new memory, and whether there is one. -/
def RetVd (w : World) (v : Vt) (is : Bool) (e : Ending) (w' : World) : Prop := ∃ ao c, e = .returned (.tuple #[.agg #[.int .u64 v.slot, .int .u64 v.ballot, .slice ao v.val.length c], .bool is]) ∧ w'.ownsRow w.heap.size 5 1 (.slice ao v.val.length c) v.val.length (u8s v.val) ∧ Below w.heap.size w w'
set_option maxHeartbeats 1000000 in
theorem voted_any {D : Nat → Prop} {w : World} {b0 bm N : Nat} {A : AS} (h : AccR w D b0 bm N A) {slot : Int} (us : U1 slot) :
    Calls Try.prog 27 #[.pointer (some ⟨b0, 0, none⟩), .int .u64 slot] w (RetVd w (vOr A slot) (A.l slot).isSome) := by
  obtain ⟨ao, c, hl, _, hsl, hlen, hc1, hc2⟩ := h.look us
  generalize (A.l slot).isSome = is at *
  generalize vOr A slot = v at *
  have hb1 := (Below.refl w.heap.size w).alloc (Nat.le_refl _) (.cells #[.int .u64 0, .int .u64 0, .slice none 0 0] 39)
  have hs1 : (w.alloc (.cells #[.int .u64 0, .int .u64 0, .slice none 0 0] 39)).heap.size = w.heap.size + 1 := by simp
  have hl1 := hl _ (hb1.block bm (h.lt _ h.dm))
  have c2 := (hb1.cell (p := ⟨b0, 2, none⟩) (h.lt _ h.d0)).trans h.cell.2.2.1
  have hk1 := heap_alloc_new w (.cells #[.int .u64 0, .int .u64 0, .slice none 0 0] 39)
  have hb2 := hb1.alloc (by simp) (.cells #[.int .u64 v.slot, .int .u64 v.ballot, .slice ao v.val.length c] 39)
  have HC := Lib.hid (copied_any (hsl.below hb2 (Nat.le_refl _)) (by omega : v.val.length ≤ 1000000000))
  have hk2 : ((w.alloc (.cells #[.int .u64 0, .int .u64 0, .slice none 0 0] 39)).alloc (.cells #[.int .u64 v.slot, .int .u64 v.ballot, .slice ao v.val.length c] 39)).heap[w.heap.size]? = _ := (Below.heap_alloc _ _ _ (by simp)).trans hk1
  have HB2 := Lib.hid hb2
  have HK2 := Lib.hid hk2
  clear hb1 hb2 hk2 hk1 h hl hsl
  go_enter Try.func27, Try.ntmps27
  go_wp2_with fail
  refine HC.out.mono ?_
  rintro e w3 ⟨ko, kc, rfl, hown, hb3⟩
  have k2 := (hb3.block w.heap.size (by simp; omega)).trans HK2.out
  have r0 : w3.cell? ⟨w.heap.size, 0, none⟩ = some (.int .u64 0) := World.news_of_block k2 0 _ rfl
  have r1 : w3.cell? ⟨w.heap.size, 1, none⟩ = some (.int .u64 0) := World.news_of_block k2 1 _ rfl
  have r2 : w3.cell? ⟨w.heap.size, 2, none⟩ = some (.slice none 0 0) := World.news_of_block k2 2 _ rfl
  have y0 : w3.frozen? ⟨w.heap.size, 0, none⟩ = false := by simp [World.frozen?, k2]
  have y1 : w3.frozen? ⟨w.heap.size, 1, none⟩ = false := by simp [World.frozen?, k2]
  have y2 : w3.frozen? ⟨w.heap.size, 2, none⟩ = false := by simp [World.frozen?, k2]
  have b1 := heap_setCell_same _ w.heap.size 0 _ _ (.int .u64 v.slot) k2
  have b2 := heap_setCell_same _ w.heap.size 1 _ _ (.int .u64 v.ballot) b1
  have b3 := heap_setCell_same _ w.heap.size 2 _ _ (.slice ko v.val.length kc) b2
  have S0 := Lib.hid (World.news_of_block b3 0 _ rfl)
  have S1 := Lib.hid (World.news_of_block b3 1 _ rfl)
  have S2 := Lib.hid (World.news_of_block b3 2 _ rfl)
  have hge : ∀ k, (Value.slice ko v.val.length kc).ownBlock = some k → w.heap.size + 2 ≤ k := fun k hk => by have := (hown.lt k hk).1; simp at this; omega
  have HO := Lib.hid (hown.weaken (base' := w.heap.size) (by have := HB2.out.size; exact this))
  have HG := Lib.hid hge
  have HB3 := Lib.hid (HB2.out.trans (hb3.mono HB2.out.size))
  clear k2 b1 b2 b3 hown hb3 hge
  go_wp2_with fail
  obtain ⟨W4, HW4⟩ : ∃ x, x = ((w3.setCell ⟨w.heap.size, 0, none⟩ (.int .u64 v.slot)).setCell ⟨w.heap.size, 1, none⟩ (.int .u64 v.ballot)).setCell ⟨w.heap.size, 2, none⟩ (.slice ko v.val.length kc) := ⟨_, rfl⟩
  rw [← HW4] at S0 S1 S2 ⊢
  have s0 : W4.cell? ⟨w.heap.size, 0, none⟩ = some (.int .u64 v.slot) := S0.out
  have s1 : W4.cell? ⟨w.heap.size, 1, none⟩ = some (.int .u64 v.ballot) := S1.out
  have s2 : W4.cell? ⟨w.heap.size, 2, none⟩ = some (.slice ko v.val.length kc) := S2.out
  refine bodyPost_ret (v := .tuple #[.agg #[.int .u64 v.slot, .int .u64 v.ballot, .slice ko v.val.length kc], .bool is]) (by simp [results, Try.results27, go_sem, s0, s1, s2]) rfl ?_
  subst HW4
  refine ⟨ko, kc, rfl, ?_, ?_⟩
  · refine own_keep HO.out (fun b hb => ?_)
    have := HG.out b hb
    repeat rw [Below.heap_setCell _ _ _ _ (by simp; omega)]
  · exact ((HB3.out.setCell (by simp) _).setCell (by simp) _).setCell (by simp) _

/-- An acceptor at p, all of whose blocks are of D; its votes' slots are few. -/
def AccO (p : Value) (D : Nat → Prop) (w : World) (N : Nat) (A : AS) : Prop := (∃ b0 bm n, p = .pointer (some ⟨b0, 0, none⟩) ∧ AccR w D b0 bm n A ∧ n ≤ N) ∧ ∃ K : List Int, K.length ≤ N ∧ ∀ x, (A.l x).isSome = true → x ∈ K
theorem AccO.step {p : Value} {D : Nat → Prop} {w w' : World} {N : Nat} {A : AS} (h : AccO p D w N A) (hb : Below w.heap.size w w') : AccO p D w' N A := by
  obtain ⟨⟨b0, bm, n, h1, h2, h3⟩, h4⟩ := h
  exact ⟨⟨b0, bm, n, h1, h2.below hb (Nat.le_refl _), h3⟩, h4⟩
theorem AccO.lt {p : Value} {D : Nat → Prop} {w : World} {N : Nat} {A : AS} (h : AccO p D w N A) : ∀ k, D k → k < w.heap.size := by
  obtain ⟨⟨b0, bm, n, h1, h2, h3⟩, h4⟩ := h; exact h2.lt
theorem AccO.mono {p : Value} {D : Nat → Prop} {w : World} {N M : Nat} {A : AS} (h : AccO p D w N A) (hm : N ≤ M) : AccO p D w M A := by
  obtain ⟨⟨b0, bm, n, h1, h2, h3⟩, K, h4, h5⟩ := h
  exact ⟨⟨b0, bm, n, h1, h2, by omega⟩, K, by omega, h5⟩
theorem anew_o (w : World) : Calls Try.prog 16 #[] w fun e w' => ∃ b0 D, e = .returned (.pointer (some ⟨b0, 0, none⟩)) ∧ AccO (.pointer (some ⟨b0, 0, none⟩)) D w' 0 emptyAS ∧ (∀ k, D k → w.heap.size ≤ k) ∧ Below w.heap.size w w' :=
  (anew_any w).mono fun _ _ ⟨h1, h2, h3⟩ => ⟨_, _, h1, ⟨⟨_, _, _, rfl, h2, Nat.le_refl _⟩, [], Nat.le_refl _, fun x hx => by cases hx⟩, fun k hk => hk.1, h3⟩
theorem AccO.promised {p : Value} {D : Nat → Prop} {w : World} {N : Nat} {A : AS} (h : AccO p D w N A) : Calls Try.prog 19 #[p] w fun e w' => e = .returned (.int .u64 A.promised) ∧ w = w' := by
  obtain ⟨⟨b0, bm, n, rfl, h2, h3⟩, h4⟩ := h; exact promised_any h2
theorem AccO.low {p : Value} {D : Nat → Prop} {w : World} {N : Nat} {A : AS} (h : AccO p D w N A) : Calls Try.prog 21 #[p] w fun e w' => e = .returned (.int .u64 A.low) ∧ w = w' := by
  obtain ⟨⟨b0, bm, n, rfl, h2, h3⟩, h4⟩ := h; exact alow_any h2
theorem AccO.voted {p : Value} {D : Nat → Prop} {w : World} {N : Nat} {A : AS} (h : AccO p D w N A) {slot : Int} (us : U1 slot) : Calls Try.prog 27 #[p, .int .u64 slot] w (RetVd w (vOr A slot) (A.l slot).isSome) := by
  obtain ⟨⟨b0, bm, n, rfl, h2, h3⟩, h4⟩ := h; exact voted_any h2 us
theorem AccO.accept {p : Value} {D : Nat → Prop} {w : World} {N : Nat} {A : AS} (h : AccO p D w N A) {sv : Value} {v : Vt} (hs : SlR w sv (u8s v.val)) (us : U1 v.slot) (ub : U1 v.ballot) (ux : U8 v.val) (lx : v.val.length ≤ 1000000) (hN : N < 1000000) :
    Calls Try.prog 18 #[p, .agg #[.int .u64 v.slot, .int .u64 v.ballot, sv]] w fun e w' => e = .returned (.int .i64 (accE A v)) ∧ ∃ D', AccO p D' w' (N + 1) (accR A v) ∧ Moved D D' w w' := by
  have h0 := h
  obtain ⟨⟨b0, bm, n, rfl, h2, h3⟩, K, h4, h5⟩ := h
  unfold accR accE
  by_cases hb : v.ballot < A.promised
  · rw [if_pos hb, if_neg (by decide)]
    exact (accept_old h2 hs hb).mono fun e w' ⟨e1, hb⟩ => ⟨e1, D, (h0.step hb).mono (Nat.le_succ _), Moved.of (Below.keep0 D hb)⟩
  · rw [if_neg hb]
    by_cases hl : v.slot < A.low
    · rw [if_pos hl, if_neg (by decide)]
      exact (accept_range h2 hs (by omega) hl).mono fun e w' ⟨e1, hb⟩ => ⟨e1, D, (h0.step hb).mono (Nat.le_succ _), Moved.of (Below.keep0 D hb)⟩
    · rw [if_neg hl, if_pos rfl]
      refine (accept_ok h2 hs (by omega) (by omega) us ub ux lx (by omega)).mono fun e w' ⟨e1, D', g1, g2⟩ => ⟨e1, D', ⟨⟨b0, bm, _, rfl, g1, by omega⟩, v.slot :: K, by simp; omega, fun x hx => ?_⟩, g2⟩
      unfold putA at hx
      simp only at hx
      by_cases e : x = v.slot
      · subst e; simp
      · rw [if_neg e] at hx; exact List.mem_cons_of_mem _ (h5 x hx)
end Go.Proofs.Ytjdjfhioobhcjaa
