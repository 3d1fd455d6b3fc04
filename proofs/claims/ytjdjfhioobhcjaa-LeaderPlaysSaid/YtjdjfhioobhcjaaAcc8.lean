/-
  The laws' own example of package acceptor.
-/
import Derived.Test.YtjdjfhioobhcjaaAcc7
import Derived.Lib.SlBytesConst
namespace Go.Proofs.Ytjdjfhioobhcjaa
open Go.ChangeShapes Go.WideShapes Go.ChangeAt Go.RowKit Go.Maps
set_option maxRecDepth 100000

theorem votL_none {l : Int → Option Vt} {ks : List Int} {fr : Int} (h : IsKeys l ks) (hn : ∀ x, l x = none) : votL l ks fr = [] := by
  cases ks with
  | nil => rfl
  | cons a r => have := (h.2 a).1 (by simp); rw [hn a] at this; cases this
def aw1 : AS := ⟨5, 0, fun _ => none⟩
def aw2 : AS := putA aw1 ⟨2, 5, [120]⟩
theorem aw_votes {ks : List Int} (h : IsKeys aw2.l ks) : votL aw2.l ks 0 = [⟨2, 5, [120]⟩] := by
  rw [votL_range (M := 3) h (fun x hx => by
    unfold aw2 putA aw1 at hx
    simp only at hx
    by_cases e : x = 2
    · omega
    · rw [if_neg e] at hx; cases hx)]
  rfl

set_option maxHeartbeats 2000000 in
theorem aawake_any (w : World) : Calls Try.prog 15 #[] w fun e w' => e = .returned (.bool true) ∧ Below w.heap.size w w' := by
  have kc := fun (w : World) (C : Array Value) (n c : Nat) => Lib.run_convert_bytes_const (P := Try.prog) w 30 5 C n c Try.underlying30 Try.underlying5
  go_enter Try.func15, Try.ntmps15
  go_wp2_with fail
  refine ((SepW.nil (Below.refl w.heap.size w)).accNew).mono ?_
  rintro e w1 ⟨b0, D, rfl, hs1⟩
  have HS1 := Lib.hid hs1
  clear hs1
  go_wp2_with fail
  refine (HS1.out.prepOk 0 rfl (by decide) (by constructor <;> decide) (by decide)).mono ?_
  rintro e w2 ⟨ks, ao, c, vs, hks, rfl, hs2⟩
  rw [votL_none hks (fun _ => rfl)] at hs2 ⊢
  have HS2 := Lib.hid (hs2.sub (List.sublist_cons_self _ _) : SepW w w2 [obAcc (.pointer (some ⟨b0, 0, none⟩)) D 0 aw1])
  clear hs2 hks HS1
  go_wp2_with fail
  refine (HS2.out.accept 0 rfl (v := ⟨2, 4, []⟩) (SlR.nil w2) (by constructor <;> decide) (by constructor <;> decide) (by intro x hx; cases hx) (by decide) (by decide)).mono ?_
  rintro e w3 ⟨rfl, D', hs3⟩
  rw [show accE aw1 ⟨2, 4, []⟩ = 32 from rfl]
  rw [show accR aw1 ⟨2, 4, []⟩ = aw1 from rfl] at hs3
  have HS3 := Lib.hid hs3
  clear hs3 HS2
  go_wp2_with fail
  have hA := below_lit w3 (.cells (u8s [120]).toArray 5 (1, 2))
  refine ((HS3.out.step hA).accept 0 rfl (v := ⟨2, 5, [120]⟩) (lit_u8 w3 [120] _ _ (by decide)) (by constructor <;> decide) (by constructor <;> decide) (by intro x hx; simp at hx; omega) (by decide) (by decide)).mono ?_
  rintro e w4 ⟨rfl, D'', hs4⟩
  rw [show accE aw1 ⟨2, 5, [120]⟩ = 0 from rfl]
  rw [show accR aw1 ⟨2, 5, [120]⟩ = aw2 from rfl] at hs4
  have HS4 := Lib.hid hs4
  clear hs4 HS3 hA
  go_wp2_with fail
  refine (HS4.out.prepOk 0 rfl (by decide) (by constructor <;> decide) (by decide)).mono ?_
  rintro e w5 ⟨ks, ao, c, vs, hks, rfl, hs5⟩
  rw [aw_votes hks] at hs5 ⊢
  have HS5 := Lib.hid hs5
  have hv := (hs5.get 0 rfl : (obVts (.slice ao _ c) 39 vs [⟨2, 5, [120]⟩]).inv w5)
  obtain ⟨ao', c', he, hc1, hc2, hvx⟩ := VtL.of_own hv.1 hv.2.1
  cases he
  obtain ⟨a, sv, rfl, q0, q1, q2, hsv⟩ := hvx 0 _ rfl
  obtain ⟨so, sc, rfl, hsc1, hsc2⟩ := hsv.form
  have g2 : w5.cell? ⟨a.block, a.off + 2, none⟩ = some (.slice so 1 sc) := by simpa [Addr.add] using q2
  have r2 : (convert 30 9 (.slice so 1 sc)).run Try.prog w5 = .ok (.string { data := #[120] }) w5 := run_strB Try.underlying30 Try.underlying5 Try.underlying9 hsv
  clear hs5 hks HS4 hvx hv hsv q0 q1 q2
  go_wp2_with fail
  refine (HS5.out.accPromised 1 rfl).mono ?_
  rintro e w6 ⟨rfl, rfl⟩
  go_wp2_with fail
  go_ret
  exact ⟨rfl, HS5.out.below⟩
end Go.Proofs.Ytjdjfhioobhcjaa
