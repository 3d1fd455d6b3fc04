/-
  Contracts of package learner: From.
-/
import Derived.Test.YtfkganccglmmlaaLrn3
namespace Go.Proofs.Ytfkganccglmmlaa
open Go.ChangeShapes Go.WideShapes Go.ChangeAt Go.RowKit Go.Maps

theorem Try.bytesInfo : (Try.prog.info? 28).map (fun i => (i.zero, i.size, i.bytes)) = some (some (.slice none 0 0), 1, 24) := by kernel_rfl
/-- Known values on end. -/
def Run (m : Kn) (slot : Int) (L : List (List Int)) : Prop := ∀ (j : Nat) xs, L[j]? = some xs → m (slot + j) = some xs
theorem Run.nil (m : Kn) (slot : Int) : Run m slot [] := fun j xs h => by simp at h
theorem Run.snoc {m : Kn} {slot : Int} {L : List (List Int)} {xs : List Int} (h : Run m slot L) (hx : m (slot + L.length) = some xs) : Run m slot (L ++ [xs]) := by
  intro j ys hj
  rw [List.getElem?_append] at hj
  split at hj
  · exact h j ys hj
  · have : j - L.length = 0 := by have := (List.getElem?_eq_some_iff.1 hj).1; simp at this; omega
    rw [this] at hj
    simp at hj
    rw [show j = L.length by omega, hx, hj]
theorem Run.last {m : Kn} {slot top : Int} {L : List (List Int)} (h : Run m slot L) (ht : IsTop m top) : L.length = 0 ∨ slot + L.length ≤ top := by
  by_cases h0 : L.length = 0
  · exact Or.inl h0
  · right
    have := h (L.length - 1) _ (List.getElem?_eq_getElem (by omega))
    have := (ht.2.2.1 _ (by rw [this]; simp)).2
    omega
def RetFrom (m : Kn) (slot most : Int) (w : World) (e : Ending) (w' : World) : Prop :=
  ∃ v L, e = .returned v ∧ RowsK w' .u8 v L ∧ Run m slot L ∧ ((L.length : Int) ≤ most ∨ L = []) ∧ (most ≤ L.length ∨ m (slot + L.length) = none) ∧ Below w.heap.size w w'
/-- What From has while it goes. -/
def FromMid (m : Kn) (slot most : Int) (w : World) (o : Value) (wr : World) : Prop :=
  ∃ vs L, wr.ownsRow w.heap.size 28 1 o vs.length vs ∧ ValsK wr .u8 vs L ∧ OffRow wr o vs ∧ Run m slot L ∧ ((L.length : Int) ≤ most ∨ L = []) ∧ Below w.heap.size w wr
theorem FromMid.step {m : Kn} {slot most : Int} {w wr w1 w2 : World} {o : Value} {vs : List Value} {L : List (List Int)} {xs : List Int} {g cg : Nat} {g' cap : Nat}
    (hown : wr.ownsRow w.heap.size 28 1 o vs.length vs) (hv : ValsK wr .u8 vs L) (ho : OffRow wr o vs) (hr : Run m slot L) (hm : (L.length : Int) < most) (hb : Below w.heap.size w wr)
    (hk : m (slot + L.length) = some xs) (hs : SlR w1 (.slice (some ⟨g, 0, none⟩) xs.length cg) (u8s xs)) (hg : wr.heap.size ≤ g) (hg1 : g < w1.heap.size) (hb1 : Below wr.heap.size wr w1)
    (hown2 : w2.ownsRow w.heap.size 28 1 (.slice (some ⟨g', 0, none⟩) (vs.length + 1) cap) (vs.length + 1) (vs ++ [.slice (some ⟨g, 0, none⟩) xs.length cg]))
    (hb2 : Below w.heap.size w1 w2) (hg' : o.ownBlock = some g' ∨ w1.heap.size ≤ g') (hk2 : ∀ k, k < w1.heap.size → some k ≠ o.ownBlock → w2.heap[k]? = w1.heap[k]?) :
    FromMid m slot most w (.slice (some ⟨g', 0, none⟩) (vs.length + 1) cap) w2 := by
  have hz : w1.heap.size ≤ w2.heap.size := hb2.size
  have hkeep : Keep (fun k => o.ownBlock = some k) w1 w2 := ⟨hb2.os, hb2.tape, hb2.output, hz, fun k hk hn => hk2 k hk (fun e => hn e.symm)⟩
  have hog : o.ownBlock ≠ some g := fun e => by have := (hown.lt g e).2; omega
  refine ⟨vs ++ [.slice (some ⟨g, 0, none⟩) xs.length cg], L ++ [xs], by simpa using hown2, ?_, ?_, hr.snoc hk, Or.inl (by simp; omega), hb.trans ((hb1.mono hb.size).trans hb2)⟩
  · refine ValsK.snoc ((hv.below hb1 (Nat.le_refl _)).keep hkeep (fun u hu k hk hs => (ho u hu k hk).1 hs)) (hs.keep hkeep (fun k hk hs => ?_))
    simp [Value.ownBlock] at hk
    exact hog (by rw [hk]; exact hs)
  · intro u hu k hk
    rcases List.mem_append.1 hu with hu | hu
    · obtain ⟨h1, h2⟩ := ho u hu k hk
      refine ⟨fun e => ?_, by have := hb1.size; omega⟩
      simp [Value.ownBlock] at e
      rcases hg' with h | h
      · exact h1 (by rw [h, e])
      · have := hb1.size; omega
    · simp at hu
      subst hu
      simp [Value.ownBlock] at hk
      refine ⟨fun e => ?_, by omega⟩
      simp [Value.ownBlock] at e
      rcases hg' with h | h
      · exact hog (by rw [h, e, hk])
      · omega

set_option maxHeartbeats 800000 in
theorem from_any {w : World} {b0 bm n : Nat} {m : Kn} {next top slot most : Int} (h : LearnerR w b0 bm n m next top) (h0 : 0 ≤ slot) (h1 : slot ≤ 18446744073709551615) (hm : most ≤ 1048576) :
    Calls Try.prog 20 #[.pointer (some ⟨b0, 0, none⟩), .int .u64 slot, .int .i64 most] w (RetFrom m slot most w) := by
  have H := Lib.hid h
  obtain ⟨i0, hi, hz0, hz1, hz2⟩ := info_parts Try.bytesInfo
  have hTop := h.top.2.1
  clear h
  go_enter Try.func20, Try.ntmps20
  go_wp2
  go_loopw [7, 8, 9] (fun o _ _ wr => FromMid m slot most w o wr) (fun o _ _ _ => most.toNat - lenOf o)
  case atStart => exact ⟨[], [], World.ownsRow_nil _ _ _ _, ValsK.nil _ _, OffRow.nil _ _, Run.nil _ _, Or.inr rfl, Below.refl _ _⟩
  case round =>
    obtain ⟨vs, L, hown, hv, ho, hr, hl, hbl⟩ := hrel
    obtain ⟨ao, c, rfl, hc1, hc2⟩ := own_slice hown
    unfold maxLen at hc2
    have hLl := hv.1
    have HLl := Lib.hid hLl
    have HB := Lib.hid hbl
    have HO := Lib.hid hown
    have HV := Lib.hid hv
    have HOf := Lib.hid ho
    have HR := Lib.hid hr
    have HL := Lib.hid hl
    by_cases hlt : (vs.length : Int) < most
    · have hcell := (H.out.below hbl).cells.cell0.1
      have hlast := hr.last H.out.top
      have hsl : 0 ≤ slot + vs.length ∧ slot + vs.length ≤ 18446744073709551615 := by omega
      obtain ⟨_, ⟨f, hf, hvals⟩, hsm⟩ := (H.out.below hbl).map
      have hlk := look_two hf hsl.1 hsl.2
      have hval := hvals _ hsl.1 hsl.2
      cases hms : m (slot + vs.length) with
      | none =>
        rw [hms] at hval
        simp only [LVal] at hval
        rw [hval] at hlk
        have HM := Lib.hid hms
        simp only [lookV, Option.getD_none, Option.isSome_none] at hlk
        clear hown hv ho hr hl hbl hf hvals hsm hval hlast hms hLl
        go_wp2_with fail
        go_ret
        exact ⟨_, L, rfl, ⟨vs, SlR.of_own HO.out, HV.out⟩, HR.out, HL.out, Or.inr (by rw [← HLl.out]; exact HM.out), HB.out⟩
      | some xs =>
        rw [hms] at hval
        obtain ⟨a, cd, e1, e2, _, _⟩ := hval
        rw [e1] at hlk
        have HM := Lib.hid hms
        have HS := Lib.hid e2
        have lx := (hsm _ _ hms).2
        have hbs := hbl.size
        simp only [lookV, Option.getD_some, Option.isSome_some] at hlk
        clear hown hv ho hr hl hbl hf hvals hsm hlast hms e1 e2 hLl
        go_wp2_with (first
          | (go_at_call 23; refine (bclone_any HS.out lx).mono ?_; rintro e w1 ⟨g, cg, rfl, hs1, hg, hg1, hb1⟩; have hs1 := Lib.hid hs1; have hb1 := Lib.hid hb1; have hown1 := Lib.hid (own_keep HO.out (fun k hk => hb1.out.block k (HO.out.lt k hk).2)); have hbs1 := hb1.out.size)
          | (at_builtin; refine wpList_app1 rfl (.tmp 31) (.tmp 34) 23 rfl w.heap.size 28 i0 (.slice none 0 0) 24 Try.underlying23 hi hz0 hz1 hz2 rfl (by omega) rfl rfl hown1.out rfl (by omega) (by omega) ?_; intro g' cap w2 hown2 hb2 hg' hk2; have hown2 := Lib.hid hown2; have hb2 := Lib.hid hb2; have hg' := Lib.hid hg'; have hk2 := Lib.hid hk2))
        go_roundw
        case rel => exact FromMid.step HO.out HV.out HOf.out HR.out (by rw [← HLl.out]; exact hlt) HB.out (by rw [← HLl.out]; exact HM.out) hs1.out hg hg1 hb1.out hown2.out hb2.out hg'.out hk2.out
        case measure => simp [lenOf]; omega
    · clear hown hv ho hr hl hbl hLl
      go_wp2_with fail
      go_ret
      exact ⟨_, L, rfl, ⟨vs, SlR.of_own HO.out, HV.out⟩, HR.out, HL.out, Or.inl (by rw [← HLl.out]; omega), HB.out⟩
end Go.Proofs.Ytfkganccglmmlaa
