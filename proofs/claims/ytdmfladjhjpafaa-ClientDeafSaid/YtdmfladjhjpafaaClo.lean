/-
  slices.Clone of bytes.
-/
import Derived.Test.YtdmfladjhjpafaaBas
namespace Go.Proofs.Ytdmfladjhjpafaa
open Go.ChangeShapes Go.WideShapes Go.ChangeAt Go.RowKit Go.Maps
set_option maxRecDepth 100000

set_option maxHeartbeats 400000 in
theorem cloneB_any {v : Value} {xs : List Int} {w : World} (h : SlR w v (u8s xs)) (hl : xs.length ≤ 1000000000) :
    Calls Try.prog 18 #[v] w fun e w' => ∃ v', e = .returned v' ∧ w'.ownsRow w.heap.size 5 1 v' xs.length (u8s xs) ∧ Below w.heap.size w w' := by
  obtain ⟨ao, c, rfl, hc, hm, hx⟩ := h
  simp only [List.length_map] at *
  unfold maxLen at hm
  cases ao with
  | none =>
    have : xs = [] := by
      cases xs with
      | nil => rfl
      | cons x r => obtain ⟨a, ha, _⟩ := hx 0 (.int .u8 x) (by simp); cases ha
    subst this
    have hnil := fun (w : World) (n c : Nat) => Lib.run_eql_slice_nil (P := Try.prog) w 22 5 none n c 0 0 Try.underlying22
    go_enter Try.func18, Try.ntmps18
    go_wp2
    go_ret
    exact ⟨_, rfl, World.ownsRow_nil _ _ _ _, Below.refl _ _⟩
  | some a =>
    have hnil := fun (w : World) (n c : Nat) => Lib.run_eql_slice_nil (P := Try.prog) w 22 5 (some a) n c 0 0 Try.underlying22
    obtain ⟨i0, hi, hz0, hz1, hz2⟩ := info_parts Try.byteInfo
    have hcell : ∀ j u, (u8s xs)[j]? = some u → (w.alloc (.cells #[] 5)).cell? (a.add j) = some u := by
      intro j u hj
      obtain ⟨a', ha, hc⟩ := hx j u hj
      cases ha
      exact cell_alloc _ hc
    go_enter Try.func18, Try.ntmps18
    go_wp2_with (at_builtin; refine wpList_append_own _ rfl (.tmp 5) (.tmp 6) 22 rfl w.heap.size 5 i0 (.int .u8 0) 1 1 Try.underlying22 hi hz0 hz1 hz2 rfl (by decide) _ 0 [] rfl (World.ownsRow_made w #[] 0 (Nat.le_refl _) (by decide) rfl) a xs.length c (u8s xs) rfl (by simp) hcell (by intro u hu; simp at hu; obtain ⟨n, _, rfl⟩ := hu; rfl) (by unfold maxLen; omega) (by omega) (by simp) ?_)
    intro v' w' hown hg _
    have hb : Below w.heap.size w w' := ((Below.refl _ _).alloc (Nat.le_refl _) _).grown hg (by simp) (by intro k hk; simp [Value.ownBlock] at hk; omega)
    go_wp2
    go_ret
    exact ⟨v', rfl, by simpa using hown, hb⟩
end Go.Proofs.Ytdmfladjhjpafaa
