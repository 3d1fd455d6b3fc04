/-
  Package leader: Open where nothing stands; a leader that is none.
-/
import Derived.Test.YtjdjfhioobhcjaaLeaD
import Derived.Test.YtjdjfhioobhcjaaKeyN
namespace Go.Proofs.Ytjdjfhioobhcjaa
open Go.ChangeShapes Go.WideShapes Go.ChangeAt Go.RowKit Go.Maps Go.Shelf
set_option maxRecDepth 100000

set_option maxHeartbeats 1000000 in
theorem rising_nil (w : World) :
    Calls Try.prog 62 #[.map none, .func (.func 63) #[] #[]] w fun e w' => e = .returned (.slice none 0 0) ∧ Below w.heap.size w w' := by
  go_enter Try.func62, Try.ntmps62
  go_wp2_with fail
  refine (keysO_any none w).mono ?_
  rintro e w2 ⟨rfl, rfl⟩
  have hA := (Below.refl w.heap.size w).alloc (Nat.le_refl _) (.cells #[.map none] 114)
  have HA := Lib.hid hA
  have hseq := keysOn_stops Fence.wide 1 trivial rfl w.heap.size (w.alloc (.cells #[.map none] 114)) (by simp) (World.news_of_block (heap_alloc_new w _) 0 _ rfl)
  have HSo := Lib.hid (sortedU_any 93 #[.pointer (some ⟨w.heap.size, 0, none⟩)] (enters_of Try.func93 (by kernel_rfl) rfl) (AllKeys (fun _ => none)) 0 (by omega)
    (fun ss hs => by
      have : ss = [] := by
        cases ss with
        | nil => rfl
        | cons a r => have := (hs.2 a).1 (by simp); cases this
      subst this; decide) _ hseq)
  clear hA hseq
  go_wp2_with fail
  refine HSo.out.mono ?_
  rintro e w2 ⟨v, ss, rfl, hS, hown2, hb2⟩
  have hss : ss = [] := by
    cases ss with
    | nil => rfl
    | cons a r => have := (hS.2 a).1 (by simp); cases this
  subst hss
  obtain ⟨ko, kc, hve, _, _⟩ := own_form hown2
  simp only [List.length_nil] at hve
  subst hve
  have HB2 := Lib.hid (HA.out.trans (hb2.mono (by simp)))
  clear hown2 hb2 hS HSo
  go_wp2_with fail
  go_loopw [12, 5, 7] (fun i ov _ wr => i = .int .i64 0 ∧ ov = .slice none 0 0 ∧ Below w.heap.size w wr) (fun _ _ _ _ => 0)
  case atStart => exact ⟨rfl, rfl, HB2.out⟩
  case round =>
    obtain ⟨rfl, rfl, hb⟩ := hrel
    have HB := Lib.hid hb
    clear hb HB2
    go_wp2_with fail
    go_ret
    exact ⟨rfl, HB.out⟩
theorem lopen_nil {D : Nat → Prop} {w : World} {b0 N : Nat} {ko : Option Nat} {A : LS} (h : LeaR w D b0 ko none N A) :
    Calls Try.prog 45 #[.pointer (some ⟨b0, 0, none⟩)] w fun e w' => e = .returned (.slice none 0 0) ∧ Below w.heap.size w w' := by
  have HR := Lib.hid (rising_nil w)
  obtain ⟨⟨c0, c1, c2, c3, c4, c5, c6, c7⟩, _⟩ := h.cell
  clear h
  go_enter Try.func45, Try.ntmps45
  go_wp2_with fail
  refine HR.out.mono ?_
  rintro e w1 ⟨rfl, h2⟩
  have H2 := Lib.hid h2
  clear h2
  go_wp2_with fail
  go_ret
  exact ⟨rfl, H2.out⟩
end Go.Proofs.Ytjdjfhioobhcjaa
