/-
  Contracts of package fold: Spans.
-/
import Derived.Test.YtabanackdjlcmaaFoldV
namespace Go.Proofs.Ytabanackdjlcmaa
open Go.ChangeShapes Go.WideShapes Go.ChangeAt Go.RowKit Go.Maps
set_option maxRecDepth 100000

theorem spC_one (l : List Sp) : ∀ u ∈ spC l, u.oneCell' = true := by
  intro u hu
  unfold spC at hu
  rw [List.mem_flatMap] at hu
  obtain ⟨s, _, hs⟩ := hu
  simp at hs
  rcases hs with rfl | rfl | rfl | rfl | rfl <;> rfl
/-- A row of spans of the call's own. -/
def RetSp (w : World) (l : List Sp) (e : Ending) (w' : World) : Prop := ∃ v, e = .returned v ∧ w'.ownsRow w.heap.size 60 5 v l.length (spC l) ∧ Below w.heap.size w w'
set_option maxHeartbeats 400000 in
theorem clonesp_any {v : Value} {l : List Sp} {w : World} (h : SpL w v l) (hl : l.length ≤ 1000000000) :
    Calls Try.prog 50 #[v] w (RetSp w l) := by
  obtain ⟨ao, c, rfl, hc, hm, hx⟩ := h
  cases ao with
  | none =>
    have : l = [] := by
      cases l with
      | nil => rfl
      | cons x r => obtain ⟨a, ha, _⟩ := hx 0 (.int .u64 x.pos) (by simp [spC]); cases ha
    subst this
    have hnil := fun (w : World) (n c : Nat) => Lib.run_eql_slice_nil (P := Try.prog) w 58 60 none n c 0 0 Try.underlying58
    go_enter Try.func50, Try.ntmps50
    go_wp2
    go_ret
    exact ⟨_, rfl, World.ownsRow_nil _ _ _ _, Below.refl _ _⟩
  | some a =>
    have hnil := fun (w : World) (n c : Nat) => Lib.run_eql_slice_nil (P := Try.prog) w 58 60 (some a) n c 0 0 Try.underlying58
    obtain ⟨i0, hi, hz0, hz1, hz2⟩ := info_parts Try.spanInfo
    have hcell : ∀ j u, (spC l)[j]? = some u → (w.alloc (.cells #[] 60)).cell? (a.add j) = some u := by
      intro j u hj
      obtain ⟨a', ha, hc⟩ := hx j u hj
      cases ha
      exact cell_alloc _ hc
    have HCell := Lib.hid hcell
    clear hcell hx
    go_enter Try.func50, Try.ntmps50
    go_wp2_with (at_builtin; refine wpList_append_own _ rfl (.tmp 5) (.tmp 6) 58 rfl w.heap.size 60 i0 _ 5 40 Try.underlying58 hi hz0 hz1 hz2 rfl (by decide) _ 0 [] rfl (World.ownsRow_made w #[] 0 (Nat.le_refl _) (by decide) rfl) a l.length c (spC l) rfl (spC_len l) HCell.out (spC_one l) (by unfold maxLen; omega) (by omega) (by simp) ?_)
    intro v' w' hown hg _
    have hb : Below w.heap.size w w' := ((Below.refl _ _).alloc (Nat.le_refl _) _).grown hg (by simp) (by intro k hk; simp [Value.ownBlock] at hk; omega)
    go_wp2
    go_ret
    exact ⟨v', rfl, by simpa using hown, hb⟩
theorem spans_any {D : Nat → Prop} {w : World} {b0 bs bt N : Nat} {lv : Value} {F : FS} (h : FoldR w D b0 bs bt N lv F) (hl : F.l.length ≤ 1000000000) :
    Calls Try.prog 29 #[.pointer (some ⟨b0, 0, none⟩)] w (RetSp w F.l) := by
  obtain ⟨c0, c1, c2, c3, c4, _⟩ := h.cell
  have HC := Lib.hid (clonesp_any (SpL.of_own h.own) hl)
  obtain ⟨ao, c, hlv, _, _⟩ := own_form h.own
  subst hlv
  clear h
  go_enter Try.func29, Try.ntmps29
  go_wp2_with fail
  refine HC.out.mono ?_
  rintro e w' ⟨v, rfl, hown, hb⟩
  obtain ⟨vo, vc, hve, _, _⟩ := own_form hown
  subst hve
  have HO := Lib.hid hown
  have HB := Lib.hid hb
  clear hown hb
  go_wp2_with fail
  go_ret
  exact ⟨_, rfl, HO.out, HB.out⟩
theorem FoldW.spans {W w : World} {p : Value} {N : Nat} {F : FS} (h : FoldW W p w N F) (hl : F.l.length ≤ 1000000000) : Calls Try.prog 29 #[p] w (RetSp w F.l) := by
  obtain ⟨D, ⟨b0, bs, bt, n, lv, rfl, h2, h3⟩, _⟩ := h; exact spans_any h2 hl
end Go.Proofs.Ytabanackdjlcmaa
