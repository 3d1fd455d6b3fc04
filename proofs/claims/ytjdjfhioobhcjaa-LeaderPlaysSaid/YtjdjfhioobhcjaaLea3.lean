/-
  Package leader: copied, Begin.
-/
import Derived.Test.YtjdjfhioobhcjaaLea
namespace Go.Proofs.Ytjdjfhioobhcjaa
open Go.ChangeShapes Go.WideShapes Go.ChangeAt Go.RowKit Go.Maps
set_option maxRecDepth 100000

def stopL (A : LS) : LS := ⟨A.many, 0, A.ballot, A.first, A.next, A.prom, A.kn, fun _ => none⟩
theorem lstop_any {D : Nat → Prop} {w : World} {b0 N : Nat} {ko lo : Option Nat} {A : LS} (h : LeaR w D b0 ko lo N A) : Calls Try.prog 41 #[.pointer (some ⟨b0, 0, none⟩)] w fun e w' => e = .returned (.tuple #[]) ∧ LeaR w' D b0 ko none N (stopL A) ∧ Keep (fun k => k = b0) w w' := by
  obtain ⟨⟨c0, c1, c2, c3, c4, c5, c6, c7⟩, hz⟩ := h.cell
  have z1 := hz 1
  have z7 := hz 7
  have H := Lib.hid h
  clear h hz
  go_enter Try.func41, Try.ntmps41
  go_wp2
  go_end0
  have hk : Keep (fun k => k = b0) w ((w.setCell ⟨b0, 1, none⟩ (.int .i64 0)).setCell ⟨b0, 7, none⟩ (.map none)) := ((Keep.refl (fun k => k = b0) w).setCell (p := ⟨b0, 1, none⟩) (Or.inl rfl) _).setCell (p := ⟨b0, 7, none⟩) (Or.inl rfl) _
  have b1 := heap_setCell_same w b0 1 _ _ (.int .i64 0) H.out.cells
  have b2 := heap_setCell_same _ b0 7 _ _ (.map none) b1
  have h0 := H.out
  refine ⟨rfl, ⟨by simpa [stopL] using b2, fun k hd => Nat.lt_of_lt_of_le (h0.lt k hd) hk.size, fun k hr => h0.dr k (by rcases hr with e | e | e; exact Or.inl e; exact Or.inr (Or.inl e); cases e), ⟨h0.ne.1, by simp, by simp⟩,
    h0.kn.keep hk (fun k hs _ => Or.inl hs) (fun b e hs => h0.ne.1 b e hs) (fun _ h => h) (fun k _ hr => by rcases hr with e | e | e; exact Or.inl e; exact Or.inr (Or.inl e); cases e) (Nat.le_refl _), ⟨by simp, fun _ _ => rfl, fun a v e => by cases e⟩, h0.many, h0.num, fun hs => absurd rfl hs⟩, hk⟩
set_option maxHeartbeats 1000000 in
theorem lis_any {D : Nat → Prop} {w : World} {b0 N : Nat} {ko lo : Option Nat} {A : LS} (h : LeaR w D b0 ko lo N A) (st node b : Int) :
    Calls Try.prog 55 #[.pointer (some ⟨b0, 0, none⟩), .int .i64 st, .int .i64 node, .int .u64 b] w fun e w' => e = .returned (.bool (decide (A.stage = st ∧ b = A.ballot ∧ 0 ≤ node ∧ node < A.many))) ∧ w = w' := by
  obtain ⟨⟨c0, c1, c2, _⟩, _⟩ := h.cell
  clear h
  have fin : ∀ x : Bool, x = decide (A.stage = st ∧ b = A.ballot ∧ 0 ≤ node ∧ node < A.many) → Ending.returned (.bool x) = Ending.returned (.bool (decide (A.stage = st ∧ b = A.ballot ∧ 0 ≤ node ∧ node < A.many))) := fun x e => by rw [e]
  have HFin := Lib.hid fin
  clear fin
  by_cases h1 : A.stage = st
  · have d1 : (A.stage == st) = true := by rw [beq_iff_eq]; exact h1
    by_cases h2 : b = A.ballot
    · have d2 : (b == A.ballot) = true := by rw [beq_iff_eq]; exact h2
      by_cases h3 : 0 ≤ node
      · have d3 : decide (0 ≤ node) = true := decide_eq_true h3
        by_cases h4 : node < A.many
        · have d4 : decide (node < A.many) = true := decide_eq_true h4
          have HF := Lib.hid (HFin.out true (by simp [h1, h2, h3, h4]))
          clear h1 h2 HFin
          go_enter Try.func55, Try.ntmps55
          go_wp2
          go_ret
          exact ⟨HF.out, rfl⟩
        · have d4 : decide (node < A.many) = false := decide_eq_false h4
          have HF := Lib.hid (HFin.out false (by simp [h4]))
          clear h1 h2 h4 HFin
          go_enter Try.func55, Try.ntmps55
          go_wp2
          go_ret
          exact ⟨HF.out, rfl⟩
      · have d3 : decide (0 ≤ node) = false := decide_eq_false h3
        have HF := Lib.hid (HFin.out false (by simp [h3]))
        clear h1 h2 h3 HFin
        go_enter Try.func55, Try.ntmps55
        go_wp2
        go_ret
        exact ⟨HF.out, rfl⟩
    · have d2 : (b == A.ballot) = false := by rw [beq_eq_false_iff_ne]; exact h2
      have HF := Lib.hid (HFin.out false (by simp [h2]))
      clear h1 h2 HFin
      go_enter Try.func55, Try.ntmps55
      go_wp2
      go_ret
      exact ⟨HF.out, rfl⟩
  · have d1 : (A.stage == st) = false := by rw [beq_eq_false_iff_ne]; exact h1
    have HF := Lib.hid (HFin.out false (by simp [h1]))
    clear h1 HFin
    go_enter Try.func55, Try.ntmps55
    go_wp2
    go_ret
    exact ⟨HF.out, rfl⟩
theorem lmajority_any {D : Nat → Prop} {w : World} {b0 N : Nat} {ko lo : Option Nat} {A : LS} (h : LeaR w D b0 ko lo N A) (f : Nat → Bool) :
    Calls Try.prog 57 #[.pointer (some ⟨b0, 0, none⟩), .int .u32 (msk 32 f)] w fun e w' => e = .returned (.bool (decide (A.many / 2 < cnt 32 f))) ∧ Drew w w' := by
  obtain ⟨⟨c0, _⟩, _⟩ := h.cell
  have hm := h.many
  have hq : IntKind.i64.wrap (A.many.tdiv 2) = A.many / 2 := by rw [Int.tdiv_eq_ediv_of_nonneg (by omega)]; exact IntWalk.i64_in _ (by constructor <;> omega)
  clear h
  go_enter Try.func57, Try.ntmps57
  go_wp2_with fail
  go_quiet ((go_at_call 81; exact quiet_drew (ones_any f _)))
  go_wp2_with fail
  go_ret
  exact ⟨rfl, Drew.of _ _⟩
end Go.Proofs.Ytjdjfhioobhcjaa

namespace Go.Proofs.Ytjdjfhioobhcjaa
open Go.ChangeShapes Go.WideShapes Go.ChangeAt Go.RowKit Go.Maps
set_option maxRecDepth 100000

set_option maxHeartbeats 400000 in
theorem lcopied_any {sv : Value} {v : Vt} {w : World} (h : SlR w sv (u8s v.val)) (hl : v.val.length ≤ 1000000000) :
    Calls Try.prog 56 #[.agg #[.int .u64 v.slot, .int .u64 v.ballot, sv]] w (RetVt w v) := by
  obtain ⟨slot, ballot, xs⟩ := v
  simp only at h hl
  obtain ⟨ao, c, rfl, _, _⟩ := id h.form
  simp only [List.length_map] at h
  have hb1 := (Below.refl w.heap.size w).alloc (Nat.le_refl _) (.cells #[.int .u64 slot, .int .u64 ballot, .slice ao xs.length c] 39)
  have hb2 := hb1.alloc hb1.size (.cells #[.int .u64 0, .int .u64 0, .slice none 0 0] 39)
  have hs1 : (w.alloc (.cells #[.int .u64 slot, .int .u64 ballot, .slice ao xs.length c] 39)).heap.size = w.heap.size + 1 := by simp
  have HC := Lib.hid (cloneB_any (h.below hb2 (Nat.le_refl _)) hl)
  have hk1 : ((w.alloc (.cells #[.int .u64 slot, .int .u64 ballot, .slice ao xs.length c] 39)).alloc (.cells #[.int .u64 0, .int .u64 0, .slice none 0 0] 39)).heap[w.heap.size]? = some (.cells #[.int .u64 slot, .int .u64 ballot, .slice ao xs.length c] 39 (0, 0)) :=
    (Below.heap_alloc _ _ _ (by simp)).trans (heap_alloc_new w _)
  have hk2 : ((w.alloc (.cells #[.int .u64 slot, .int .u64 ballot, .slice ao xs.length c] 39)).alloc (.cells #[.int .u64 0, .int .u64 0, .slice none 0 0] 39)).heap[w.heap.size + 1]? = some (.cells #[.int .u64 0, .int .u64 0, .slice none 0 0] 39 (0, 0)) := by
    have := heap_alloc_new (w.alloc (.cells #[.int .u64 slot, .int .u64 ballot, .slice ao xs.length c] 39)) (.cells #[.int .u64 0, .int .u64 0, .slice none 0 0] 39 (0, 0))
    rw [hs1] at this; exact this
  have HB2 := Lib.hid hb2
  have HK1 := Lib.hid hk1
  have HK2 := Lib.hid hk2
  clear hb1 hb2 hk1 hk2 h
  go_enter Try.func56, Try.ntmps56
  go_wp2_with fail
  refine HC.out.mono ?_
  rintro e w3 ⟨v', rfl, hown, hb3⟩
  obtain ⟨ko, kc, rfl, _, _⟩ := own_form hown
  have k1 := (hb3.block w.heap.size (by simp; omega)).trans HK1.out
  have k2 := (hb3.block (w.heap.size + 1) (by simp)).trans HK2.out
  have q0 : w3.cell? ⟨w.heap.size, 0, none⟩ = some (.int .u64 slot) := by simp [World.cell?, k1]
  have q1 : w3.cell? ⟨w.heap.size, 1, none⟩ = some (.int .u64 ballot) := by simp [World.cell?, k1]
  have q2 : w3.cell? ⟨w.heap.size, 2, none⟩ = some (.slice ao xs.length c) := by simp [World.cell?, k1]
  have z2 : w3.frozen? ⟨w.heap.size, 2, none⟩ = false := by simp [World.frozen?, k1]
  have r0 : w3.cell? ⟨w.heap.size + 1, 0, none⟩ = some (.int .u64 0) := by simp [World.cell?, k2]
  have r1 : w3.cell? ⟨w.heap.size + 1, 1, none⟩ = some (.int .u64 0) := by simp [World.cell?, k2]
  have r2 : w3.cell? ⟨w.heap.size + 1, 2, none⟩ = some (.slice none 0 0) := by simp [World.cell?, k2]
  have y0 : w3.frozen? ⟨w.heap.size + 1, 0, none⟩ = false := by simp [World.frozen?, k2]
  have y1 : w3.frozen? ⟨w.heap.size + 1, 1, none⟩ = false := by simp [World.frozen?, k2]
  have y2 : w3.frozen? ⟨w.heap.size + 1, 2, none⟩ = false := by simp [World.frozen?, k2]
  have HO := Lib.hid (hown.weaken (base' := w.heap.size) (by have := HB2.out.size; exact this))
  have hge : ∀ k, (Value.slice ko xs.length kc).ownBlock = some k → w.heap.size + 2 ≤ k := fun k hk => by have := (hown.lt k hk).1; simp at this; omega
  have HG := Lib.hid hge
  have HB3 := Lib.hid (HB2.out.trans (hb3.mono HB2.out.size))
  have k3 : (w3.setCell ⟨w.heap.size, 2, none⟩ (.slice ko xs.length kc)).heap[w.heap.size + 1]? = _ := (Below.heap_setCell _ _ _ _ (by simp)).trans k2
  have b1 := heap_setCell_same _ (w.heap.size + 1) 0 _ _ (.int .u64 slot) k3
  have b2 := heap_setCell_same _ (w.heap.size + 1) 1 _ _ (.int .u64 ballot) b1
  have b3 := heap_setCell_same _ (w.heap.size + 1) 2 _ _ (.slice ko xs.length kc) b2
  have s0 := World.news_of_block b3 0 _ rfl
  have s1 := World.news_of_block b3 1 _ rfl
  have s2 := World.news_of_block b3 2 _ rfl
  have S0 := Lib.hid s0
  have S1 := Lib.hid s1
  have S2 := Lib.hid s2
  clear k1 k2 k3 b1 b2 b3 s0 s1 s2 hown hb3 hge
  go_wp2_with fail
  obtain ⟨W4, HW4⟩ : ∃ x, x = (((w3.setCell ⟨w.heap.size, 2, none⟩ (.slice ko xs.length kc)).setCell ⟨w.heap.size + 1, 0, none⟩ (.int .u64 slot)).setCell ⟨w.heap.size + 1, 1, none⟩ (.int .u64 ballot)).setCell ⟨w.heap.size + 1, 2, none⟩ (.slice ko xs.length kc) := ⟨_, rfl⟩
  rw [← HW4] at S0 S1 S2 ⊢
  have s0 : W4.cell? ⟨w.heap.size + 1, 0, none⟩ = some (.int .u64 slot) := S0.out
  have s1 : W4.cell? ⟨w.heap.size + 1, 1, none⟩ = some (.int .u64 ballot) := S1.out
  have s2 : W4.cell? ⟨w.heap.size + 1, 2, none⟩ = some (.slice ko xs.length kc) := S2.out
  refine bodyPost_ret (v := .agg #[.int .u64 slot, .int .u64 ballot, .slice ko xs.length kc]) (by simp [results, Try.results56, go_sem, s0, s1, s2]) rfl ?_
  subst HW4
  refine ⟨ko, kc, rfl, ?_, ?_⟩
  · refine own_keep HO.out (fun b hb => ?_)
    have := HG.out b hb
    repeat rw [Below.heap_setCell _ _ _ _ (by simp; omega)]
  · exact (((HB3.out.setCell (by simp) _).setCell (by simp) _).setCell (by simp) _).setCell (by simp) _
def beginL (A : LS) (b fr : Int) : LS := ⟨A.many, 1, b, fr, 0, fun _ => false, fun _ => none, fun _ => none⟩
theorem lbegin_old {D : Nat → Prop} {w : World} {b0 N : Nat} {ko lo : Option Nat} {A : LS} (h : LeaR w D b0 ko lo N A) {b fr : Int} (hb : b ≤ A.ballot) :
    Calls Try.prog 31 #[.pointer (some ⟨b0, 0, none⟩), .int .u64 b, .int .u64 fr] w fun e w' => e = .returned (.int .i64 32) ∧ w = w' := by
  obtain ⟨⟨c0, c1, c2, _⟩, _⟩ := h.cell
  clear h
  go_enter Try.func31, Try.ntmps31
  go_wp2
  go_ret
  exact ⟨rfl, rfl⟩
theorem lbegin_ok {D : Nat → Prop} {w : World} {b0 N : Nat} {ko lo : Option Nat} {A : LS} (h : LeaR w D b0 ko lo N A) {b fr : Int} (hb : A.ballot < b) (ub : U1 b) (uf : U1 fr) :
    Calls Try.prog 31 #[.pointer (some ⟨b0, 0, none⟩), .int .u64 b, .int .u64 fr] w fun e w' => e = .returned (.int .i64 0) ∧ ∃ D' bk bl, LeaR w' D' b0 (some bk) (some bl) 0 (beginL A b fr) ∧ Moved D D' w w' := by
  have hmm := @run_makeMap Try.prog
  obtain ⟨⟨c0, _, c2, _⟩, _⟩ := h.cell
  have hb2 : Below w.heap.size w ((w.alloc (.map #[] 0)).alloc (.map #[] 0)) := ((Below.refl _ _).alloc (Nat.le_refl _) _).alloc (by simp) _
  obtain ⟨⟨d0, d1, d2, d3, d4, d5, d6, d7⟩, hz⟩ := (h.below hb2 (Nat.le_refl _)).cell
  have z0 := hz 0
  have z1 := hz 1
  have z2 := hz 2
  have z3 := hz 3
  have z4 := hz 4
  have z5 := hz 5
  have z6 := hz 6
  have z7 := hz 7
  have hn : ¬ b ≤ A.ballot := by omega
  have H := Lib.hid h
  have HB2 := Lib.hid hb2
  have hs1 : (w.alloc (.map #[] 0)).heap.size = w.heap.size + 1 := by simp
  have hm1 : ((w.alloc (.map #[] 0)).alloc (.map #[] 0)).heap[w.heap.size]? = some (.map #[] 0) := (Below.heap_alloc _ _ _ (by simp)).trans (heap_alloc_new w _)
  have hm2 : ((w.alloc (.map #[] 0)).alloc (.map #[] 0)).heap[w.heap.size + 1]? = some (.map #[] 0) := by have := heap_alloc_new (w.alloc (.map #[] 0)) (.map #[] 0); rw [hs1] at this; exact this
  have HM1 := Lib.hid hm1
  have HM2 := Lib.hid hm2
  clear h hz hb hb2 hm1 hm2 hs1
  go_enter Try.func31, Try.ntmps31
  go_wp2
  go_ret
  have h0 := H.out
  have hb0 := h0.lt b0 (h0.dr b0 (Or.inl rfl))
  have e1 := (HB2.out.block b0 hb0).trans h0.cells
  have e2 := heap_setCell_same _ b0 0 _ _ (.int .i64 A.many) e1
  have e3 := heap_setCell_same _ b0 1 _ _ (.int .i64 1) e2
  have e4 := heap_setCell_same _ b0 2 _ _ (.int .u64 b) e3
  have e5 := heap_setCell_same _ b0 3 _ _ (.int .u64 fr) e4
  have e6 := heap_setCell_same _ b0 4 _ _ (.int .u64 0) e5
  have e7 := heap_setCell_same _ b0 5 _ _ (.int .u32 0) e6
  have e8 := heap_setCell_same _ b0 6 _ _ (.map (some w.heap.size)) e7
  have e9 := heap_setCell_same _ b0 7 _ _ (.map (some (w.heap.size + 1))) e8
  have hk : Keep (fun k => k = b0) ((w.alloc (.map #[] 0)).alloc (.map #[] 0)) _ :=
    ((((((((Keep.refl (fun k => k = b0) ((w.alloc (.map #[] 0)).alloc (.map #[] 0))).setCell (p := ⟨b0, 0, none⟩) (Or.inl rfl) (.int .i64 A.many)).setCell (p := ⟨b0, 1, none⟩) (Or.inl rfl) (.int .i64 1)).setCell (p := ⟨b0, 2, none⟩) (Or.inl rfl) (.int .u64 b)).setCell (p := ⟨b0, 3, none⟩) (Or.inl rfl) (.int .u64 fr)).setCell (p := ⟨b0, 4, none⟩) (Or.inl rfl) (.int .u64 0)).setCell (p := ⟨b0, 5, none⟩) (Or.inl rfl) (.int .u32 0)).setCell (p := ⟨b0, 6, none⟩) (Or.inl rfl) (.map (some w.heap.size))).setCell (p := ⟨b0, 7, none⟩) (Or.inl rfl) (.map (some (w.heap.size + 1)))
  have hz2 : ((w.alloc (.map #[] 0)).alloc (.map #[] 0)).heap.size = w.heap.size + 2 := by simp
  have m1 := (hk.block w.heap.size (by omega) (by omega)).trans HM1.out
  have m2 := (hk.block (w.heap.size + 1) (by omega) (by omega)).trans HM2.out
  have hsz := hk.size
  have hkw : Keep D w _ := (Below.keep0 D HB2.out).trans (hk.mono (fun k _ e => by subst e; exact h0.dr _ (Or.inl rfl)))
  simp at e9
  generalize (((((((((w.alloc (.map #[] 0)).alloc (.map #[] 0)).setCell ⟨b0, 0, none⟩ (.int .i64 A.many)).setCell ⟨b0, 1, none⟩ (.int .i64 1)).setCell ⟨b0, 2, none⟩ (.int .u64 b)).setCell ⟨b0, 3, none⟩ (.int .u64 fr)).setCell ⟨b0, 4, none⟩ (.int .u64 0)).setCell ⟨b0, 5, none⟩ (.int .u32 0)).setCell ⟨b0, 6, none⟩ (.map (some w.heap.size))).setCell ⟨b0, 7, none⟩ (.map (some (w.heap.size + 1))) = W9 at *
  have q1 : MapR W9 Try.prog 29 w.heap.size 0 (fun _ => none) := (MapR.made w Try.prog 29).same (m1.trans (heap_alloc_new w _).symm)
  have q2 : MapR W9 Try.prog 29 (w.heap.size + 1) 0 (fun _ => none) := by
    have := MapR.made (w.alloc (.map #[] 0)) Try.prog 29
    rw [show (w.alloc (.map #[] 0)).heap.size = w.heap.size + 1 by simp] at this
    exact this.same (m2.trans (by have := heap_alloc_new (w.alloc (.map #[] 0)) (.map #[] 0); rw [show (w.alloc (.map #[] 0)).heap.size = w.heap.size + 1 by simp] at this; exact this.symm))
  refine ⟨rfl, fun k => D k ∨ k = w.heap.size ∨ k = w.heap.size + 1, ⟨w.heap.size, w.heap.size + 1, ⟨?_, fun k hd => ?_, fun k hr => ?_, ⟨?_, ?_, ?_⟩, ⟨?_, by simp, fun a v e => by cases e⟩, ⟨?_, by simp, fun a v e => by cases e⟩, h0.many, ⟨ub, uf, ⟨by simp [beginL], by simp [beginL]⟩⟩, fun _ => ⟨rfl, rfl⟩⟩⟩, ⟨hkw, fun k hd => Or.inl hd, fun k hd => ?_⟩⟩
  · unfold beginL; simp only [msk_none]; exact e9
  · rcases hd with hd | hd | hd
    · have := h0.lt k hd; omega
    · omega
    · omega
  · rcases hr with e | e | e
    · subst e; exact Or.inl (h0.dr _ (Or.inl rfl))
    · cases e; exact Or.inr (Or.inl rfl)
    · cases e; exact Or.inr (Or.inr rfl)
  · intro c e; cases e; omega
  · intro c e; cases e; omega
  · intro c e e'
    have e1 : w.heap.size = c := by simpa using e
    have e2 : w.heap.size + 1 = c := by simpa using e'
    omega
  · intro c e; cases e; exact ⟨_, q1, fun _ _ => rfl, fun kl h => by cases h⟩
  · intro c e; cases e; exact ⟨_, q2, fun _ _ => rfl, fun kl h => by cases h⟩
  · rcases hd with hd | hd | hd
    · exact Or.inl hd
    · exact Or.inr (by omega)
    · exact Or.inr (by omega)
end Go.Proofs.Ytjdjfhioobhcjaa
