/-
  Contracts of package learner: Next, Top, Get, From.
-/
import Derived.Test.YtfkganccglmmlaaLrn2
import Derived.Test.YtfkganccglmmlaaLib5
namespace Go.Proofs.Ytfkganccglmmlaa
open Go.ChangeShapes Go.WideShapes Go.ChangeAt Go.RowKit Go.Maps

theorem next_nil (w : World) : Calls Try.prog 11 #[.pointer none] w fun e w' => e = .returned (.int .u64 0) ∧ w = w' := by
  go_enter Try.func11, Try.ntmps11
  go_wp2
  go_ret
  exact ⟨rfl, rfl⟩
theorem top_nil (w : World) : Calls Try.prog 13 #[.pointer none] w fun e w' => e = .returned (.int .u64 0) ∧ w = w' := by
  go_enter Try.func13, Try.ntmps13
  go_wp2
  go_ret
  exact ⟨rfl, rfl⟩
theorem next_any {w : World} {b0 bm n : Nat} {m : Kn} {next top : Int} (h : LearnerR w b0 bm n m next top) : Calls Try.prog 11 #[.pointer (some ⟨b0, 0, none⟩)] w fun e w' => e = .returned (.int .u64 next) ∧ w = w' := by
  obtain ⟨c0, c1, c2, z1, z2⟩ := h.cells.cell0
  clear h
  go_enter Try.func11, Try.ntmps11
  go_wp2
  go_ret
  exact ⟨rfl, rfl⟩
theorem top_any {w : World} {b0 bm n : Nat} {m : Kn} {next top : Int} (h : LearnerR w b0 bm n m next top) : Calls Try.prog 13 #[.pointer (some ⟨b0, 0, none⟩)] w fun e w' => e = .returned (.int .u64 top) ∧ w = w' := by
  obtain ⟨c0, c1, c2, z1, z2⟩ := h.cells.cell0
  clear h
  go_enter Try.func13, Try.ntmps13
  go_wp2
  go_ret
  exact ⟨rfl, rfl⟩
theorem get_nil (slot : Int) (w : World) : Calls Try.prog 18 #[.pointer none, .int .u64 slot] w fun e w' => e = .returned (.tuple #[.slice none 0 0, .bool false]) ∧ w = w' := by
  go_enter Try.func18, Try.ntmps18
  go_wp2
  go_ret2
  exact ⟨rfl, rfl⟩
theorem from_nil (slot k : Int) (w : World) : Calls Try.prog 20 #[.pointer none, .int .u64 slot, .int .i64 k] w fun e w' => e = .returned (.slice none 0 0) ∧ w = w' := by
  go_enter Try.func20, Try.ntmps20
  go_wp2
  go_ret
  exact ⟨rfl, rfl⟩

theorem bclone_nil (w : World) : Calls Try.prog 23 #[.slice none 0 0] w fun e w' => e = .returned (.slice none 0 0) ∧ w = w' := by
  have hnil := fun (w : World) (n c : Nat) => Lib.run_eql_slice_nil (P := Try.prog) w 28 5 none n c 0 0 Try.underlying28
  go_enter Try.func23, Try.ntmps23
  go_wp2
  go_ret
  exact ⟨rfl, rfl⟩
/-- A copy of bytes, in a block of its own. -/
def RetBytes (xs : List Int) (w : World) (e : Ending) (w' : World) : Prop :=
  ∃ g c, e = .returned (.slice (some ⟨g, 0, none⟩) xs.length c) ∧ SlR w' (.slice (some ⟨g, 0, none⟩) xs.length c) (u8s xs) ∧ w.heap.size ≤ g ∧ g < w'.heap.size ∧ Below w.heap.size w w'
theorem bclone_any {a : Addr} {n c : Nat} {xs : List Int} {w : World} (h : SlR w (.slice (some a) n c) (u8s xs)) (hl : xs.length ≤ 1048576) :
    Calls Try.prog 23 #[.slice (some a) n c] w (RetBytes xs w) := by
  have hnil := fun (w : World) (n c : Nat) => Lib.run_eql_slice_nil (P := Try.prog) w 28 5 (some a) n c 0 0 Try.underlying28
  obtain ⟨i0, hi, hz0, hz1, hz2⟩ := info_parts Try.byteInfo
  have hb0 : Below w.heap.size w (w.alloc (.cells #[] 5)) := (Below.refl _ _).alloc (Nat.le_refl _) _
  have hs := Lib.hid (h.below hb0 (Nat.le_refl _))
  have hown := Lib.hid (World.ownsRow_made (e := 5) (size := 1) w #[] 0 (Nat.le_refl _) (by decide) rfl)
  have hlen : (u8s xs).length ≤ 1048576 := by simpa using hl
  have hone := Lib.hid (u8s_one xs)
  obtain ⟨cs, hcs⟩ : ∃ cs, cs = u8s xs := ⟨_, rfl⟩
  rw [← hcs] at hs hlen hone
  have HCs := Lib.hid hcs
  clear h hcs
  go_enter Try.func23, Try.ntmps23
  go_wp2_with (at_builtin; refine wpList_appSrc rfl (.tmp 5) (.tmp 6) 28 rfl w.heap.size 5 i0 (.int .u8 0) 1 Try.underlying28 hi hz0 hz1 hz2 rfl (by omega) rfl rfl hown.out hs.out hone.out (by omega) (by simp) ?_)
  intro v' w1 hown1 hb1 _ _ hnn
  obtain ⟨g, cap, hv', hge, hlt⟩ := own_some hown1 (by first | exact hnn | exact hnn (by simp))
  subst hv'
  have hown1 := Lib.hid hown1
  have hb1 := Lib.hid (hb0.trans hb1)
  clear hnn hb0
  go_wp2
  go_ret
  have h1 := hown1.out
  rw [HCs.out] at h1
  have e : (u8s xs).length = xs.length := by simp
  rw [e] at h1
  rw [HCs.out, e]
  exact ⟨g, cap, rfl, SlR.of_own h1, hge, hlt, hb1.out⟩

/-- Behind Get. -/
def RetGet (m : Kn) (slot : Int) (w : World) (e : Ending) (w' : World) : Prop :=
  ∃ v xs, e = .returned (.tuple #[v, .bool (m slot).isSome]) ∧ SlR w' v (u8s xs) ∧ U8 xs ∧ (m slot = some xs ∨ (m slot = none ∧ xs = [])) ∧ Below w.heap.size w w'
theorem get_any {w : World} {b0 bm n : Nat} {m : Kn} {next top slot : Int} (h : LearnerR w b0 bm n m next top) (h0 : 0 ≤ slot) (h1 : slot ≤ 18446744073709551615) :
    Calls Try.prog 18 #[.pointer (some ⟨b0, 0, none⟩), .int .u64 slot] w (RetGet m slot w) := by
  obtain ⟨c0, c1, c2, z1, z2⟩ := h.cells.cell0
  obtain ⟨hne, ⟨f, hf, hvals⟩, hsm⟩ := h.map
  have hl := look_two hf h0 h1
  have hval := hvals slot h0 h1
  cases hms : m slot with
  | none =>
    rw [hms] at hval
    simp only [LVal] at hval
    rw [hval] at hl
    simp only [lookV, Option.getD_none, Option.isSome_none] at hl
    have hms := Lib.hid hms
    clear hvals hsm hf h hval
    go_enter Try.func18, Try.ntmps18
    go_wp2_with (go_at_call 23; refine (bclone_nil _).mono ?_; rintro e w' ⟨rfl, rfl⟩)
    go_ret2
    exact ⟨_, [], by rw [hms.out]; rfl, SlR.nil _, (fun x hx => by cases hx), Or.inr ⟨hms.out, rfl⟩, Below.refl _ _⟩
  | some xs =>
    rw [hms] at hval
    obtain ⟨a, c, e1, e2, _, _⟩ := hval
    rw [e1] at hl
    have hs := Lib.hid (hsm _ _ hms)
    have e2 := Lib.hid e2
    simp only [lookV, Option.getD_some, Option.isSome_some] at hl
    have hms := Lib.hid hms
    clear hvals hsm hf h e1
    go_enter Try.func18, Try.ntmps18
    go_wp2_with (go_at_call 23; refine (bclone_any e2.out hs.out.2).mono ?_; rintro e w' ⟨g, cg, rfl, hb, _, _, hbl⟩)
    go_ret2
    exact ⟨_, xs, by rw [hms.out]; rfl, hb, hs.out.1, Or.inl hms.out, hbl⟩
end Go.Proofs.Ytfkganccglmmlaa
