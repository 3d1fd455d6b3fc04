/-
  Package leader: Stop, is, majority, copied, Begin.
-/
import Derived.Test.YtjdjfhioobhcjaaLea
namespace Go.Proofs.Ytjdjfhioobhcjaa
open Go.ChangeShapes Go.WideShapes Go.ChangeAt Go.RowKit Go.Maps
set_option maxRecDepth 100000

def stopL (A : LS) : LS := ⟨A.many, 0, A.ballot, A.first, A.next, A.prom, A.kn, fun _ => none⟩
theorem lstop_any {D : Nat → Prop} {w : World} {b0 N : Nat} {ko lo : Option Nat} {A : LS} (h : LeaR w D b0 ko lo N A) : Calls Try.prog 41 #[.pointer (some ⟨b0, 0, none⟩)] w fun e w' => e = .returned (.tuple #[]) ∧ LeaR w' D b0 ko none N (stopL A) ∧ Keep (fun k => k = b0) w w' := by
  obtain ⟨⟨c0, c1, c2, c3, c4, c5, c6, c7⟩, hz⟩ := h.cell
  have z1 := hz 1
  have z7 := hz 7
  have H := Lib.hid h
  clear h hz
  go_enter Try.func41, Try.ntmps41
  go_wp2
  go_end0
  have hk : Keep (fun k => k = b0) w ((w.setCell ⟨b0, 1, none⟩ (.int .i64 0)).setCell ⟨b0, 7, none⟩ (.map none)) := ((Keep.refl (fun k => k = b0) w).setCell (p := ⟨b0, 1, none⟩) (Or.inl rfl) _).setCell (p := ⟨b0, 7, none⟩) (Or.inl rfl) _
  have b1 := heap_setCell_same w b0 1 _ _ (.int .i64 0) H.out.cells
  have b2 := heap_setCell_same _ b0 7 _ _ (.map none) b1
  have h0 := H.out
  refine ⟨rfl, ⟨by simpa [stopL] using b2, fun k hd => Nat.lt_of_lt_of_le (h0.lt k hd) hk.size, fun k hr => h0.dr k (by rcases hr with e | e | e; exact Or.inl e; exact Or.inr (Or.inl e); cases e), ⟨h0.ne.1, by simp, by simp⟩,
    h0.kn.keep hk (fun k hs _ => Or.inl hs) (fun b e hs => h0.ne.1 b e hs) (fun _ h => h) (fun k _ hr => by rcases hr with e | e | e; exact Or.inl e; exact Or.inr (Or.inl e); cases e) (Nat.le_refl _), ⟨by simp, fun _ _ => rfl, fun a v e => by cases e⟩, h0.many, h0.num, fun hs => absurd rfl hs⟩, hk⟩
set_option maxHeartbeats 1000000 in
theorem lis_any {D : Nat → Prop} {w : World} {b0 N : Nat} {ko lo : Option Nat} {A : LS} (h : LeaR w D b0 ko lo N A) (st node b : Int) :
    Calls Try.prog 55 #[.pointer (some ⟨b0, 0, none⟩), .int .i64 st, .int .i64 node, .int .u64 b] w fun e w' => e = .returned (.bool (decide (A.stage = st ∧ b = A.ballot ∧ 0 ≤ node ∧ node < A.many))) ∧ w = w' := by
  obtain ⟨⟨c0, c1, c2, _⟩, _⟩ := h.cell
  clear h
  have fin : ∀ x : Bool, x = decide (A.stage = st ∧ b = A.ballot ∧ 0 ≤ node ∧ node < A.many) → Ending.returned (.bool x) = Ending.returned (.bool (decide (A.stage = st ∧ b = A.ballot ∧ 0 ≤ node ∧ node < A.many))) := fun x e => by rw [e]
  have HFin := Lib.hid fin
  clear fin
  by_cases h1 : A.stage = st
  · have d1 : (A.stage == st) = true := by rw [beq_iff_eq]; exact h1
    by_cases h2 : b = A.ballot
    · have d2 : (b == A.ballot) = true := by rw [beq_iff_eq]; exact h2
      by_cases h3 : 0 ≤ node
      · have d3 : decide (0 ≤ node) = true := decide_eq_true h3
        by_cases h4 : node < A.many
        · have d4 : decide (node < A.many) = true := decide_eq_true h4
          have HF := Lib.hid (HFin.out true (by simp [h1, h2, h3, h4]))
          clear h1 h2 HFin
          go_enter Try.func55, Try.ntmps55
          go_wp2
          go_ret
          exact ⟨HF.out, rfl⟩
        · have d4 : decide (node < A.many) = false := decide_eq_false h4
          have HF := Lib.hid (HFin.out false (by simp [h4]))
          clear h1 h2 h4 HFin
          go_enter Try.func55, Try.ntmps55
          go_wp2
          go_ret
          exact ⟨HF.out, rfl⟩
      · have d3 : decide (0 ≤ node) = false := decide_eq_false h3
        have HF := Lib.hid (HFin.out false (by simp [h3]))
        clear h1 h2 h3 HFin
        go_enter Try.func55, Try.ntmps55
        go_wp2
        go_ret
        exact ⟨HF.out, rfl⟩
    · have d2 : (b == A.ballot) = false := by rw [beq_eq_false_iff_ne]; exact h2
      have HF := Lib.hid (HFin.out false (by simp [h2]))
      clear h1 h2 HFin
      go_enter Try.func55, Try.ntmps55
      go_wp2
      go_ret
      exact ⟨HF.out, rfl⟩
  · have d1 : (A.stage == st) = false := by rw [beq_eq_false_iff_ne]; exact h1
    have HF := Lib.hid (HFin.out false (by simp [h1]))
    clear h1 HFin
    go_enter Try.func55, Try.ntmps55
    go_wp2
    go_ret
    exact ⟨HF.out, rfl⟩
theorem lmajority_any {D : Nat → Prop} {w : World} {b0 N : Nat} {ko lo : Option Nat} {A : LS} (h : LeaR w D b0 ko lo N A) (f : Nat → Bool) :
    Calls Try.prog 57 #[.pointer (some ⟨b0, 0, none⟩), .int .u32 (msk 32 f)] w fun e w' => e = .returned (.bool (decide (A.many / 2 < cnt 32 f))) ∧ Drew w w' := by
  obtain ⟨⟨c0, _⟩, _⟩ := h.cell
  have hm := h.many
  have hq : IntKind.i64.wrap (A.many.tdiv 2) = A.many / 2 := by rw [Int.tdiv_eq_ediv_of_nonneg (by omega)]; exact IntWalk.i64_in _ (by constructor <;> omega)
  clear h
  go_enter Try.func57, Try.ntmps57
  go_wp2_with fail
  go_quiet ((go_at_call 81; exact quiet_drew (ones_any f _)))
  go_wp2_with fail
  go_ret
  exact ⟨rfl, Drew.of _ _⟩
end Go.Proofs.Ytjdjfhioobhcjaa
