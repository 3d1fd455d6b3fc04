/-
  The laws' example of a client.
-/
import Derived.Test.YtdmfladjhjpafaaCliE
namespace Go.Proofs.Ytdmfladjhjpafaa
open Go.ChangeShapes Go.WideShapes Go.ChangeAt Go.RowKit Go.Maps
set_option maxRecDepth 1000000

/-- Shards' one row, typed out, and those that order. -/
theorem new_args (w : World) (r o : List Int) (hr : r.length ≤ 1000) (ho : o.length ≤ 1000) (T1 T2 T3 : TypeId) :
    RowsK (((w.alloc (.cells (i64s r).toArray T1)).alloc (.cells #[.slice (some ⟨w.heap.size, 0, none⟩) r.length r.length] T2)).alloc (.cells (i64s o).toArray T3)) .i64 (.slice (some ⟨w.heap.size + 1, 0, none⟩) 1 1) [r] ∧
    SlR (((w.alloc (.cells (i64s r).toArray T1)).alloc (.cells #[.slice (some ⟨w.heap.size, 0, none⟩) r.length r.length] T2)).alloc (.cells (i64s o).toArray T3)) (.slice (some ⟨w.heap.size + 2, 0, none⟩) o.length o.length) (i64s o) ∧
    Below w.heap.size w (((w.alloc (.cells (i64s r).toArray T1)).alloc (.cells #[.slice (some ⟨w.heap.size, 0, none⟩) r.length r.length] T2)).alloc (.cells (i64s o).toArray T3)) := by
  have z1 : (w.alloc (.cells (i64s r).toArray T1)).heap.size = w.heap.size + 1 := by simp
  have z2 : ((w.alloc (.cells (i64s r).toArray T1)).alloc (.cells #[.slice (some ⟨w.heap.size, 0, none⟩) r.length r.length] T2)).heap.size = w.heap.size + 2 := by simp
  have h1 := lit_i64 w r T1 hr
  have h2 : SlR ((w.alloc (.cells (i64s r).toArray T1)).alloc (.cells #[.slice (some ⟨w.heap.size, 0, none⟩) r.length r.length] T2)) (.slice (some ⟨w.heap.size + 1, 0, none⟩) 1 1) [.slice (some ⟨w.heap.size, 0, none⟩) r.length r.length] := by
    have := SlR.of_own (own_lit (w.alloc (.cells (i64s r).toArray T1)) [.slice (some ⟨w.heap.size, 0, none⟩) r.length r.length] T2 (by simp))
    rw [z1] at this
    simpa using this
  have h3 := lit_i64 ((w.alloc (.cells (i64s r).toArray T1)).alloc (.cells #[.slice (some ⟨w.heap.size, 0, none⟩) r.length r.length] T2)) o T3 ho
  rw [z2] at h3
  have b2 := below_lit (w.alloc (.cells (i64s r).toArray T1)) (.cells #[.slice (some ⟨w.heap.size, 0, none⟩) r.length r.length] T2)
  have b3 := below_lit ((w.alloc (.cells (i64s r).toArray T1)).alloc (.cells #[.slice (some ⟨w.heap.size, 0, none⟩) r.length r.length] T2)) (.cells (i64s o).toArray T3)
  refine ⟨⟨_, h2.below b3 (Nat.le_refl _), ⟨rfl, fun i u x hu hx => ?_⟩⟩, h3, ((below_lit w _).alloc (by simp) _).alloc (by simp; omega) _⟩
  cases i with
  | zero =>
    cases hu; cases hx
    exact (h1.below b2 (Nat.le_refl _)).below b3 (Nat.le_refl _)
  | succ i => simp at hx
def cx1 : Cl := ⟨5, 0, 0, 5, []⟩
def cw0 : CS := ⟨7, 0, [[3, 4]], [0, 1], fun _ => none⟩
theorem keys_one {l : Int → Option (Cl × Int)} {ks : List Int} {a : Int} (h : IsCKeys l ks) (ha : ∀ b, (l b).isSome = true ↔ b = a) : ks = [a] :=
  rise_unique h.1 (List.pairwise_singleton _ _) (fun b => by rw [h.2 b, ha b]; simp)
theorem keys_none {l : Int → Option (Cl × Int)} {ks : List Int} (h : IsCKeys l ks) (ha : ∀ b, l b = none) : ks = [] :=
  rise_unique h.1 List.Pairwise.nil (fun b => by rw [h.2 b, ha b]; simp)
theorem OutC.no {cs : List Value} (h : OutC cs []) : cs = [] := by
  generalize hL : ([] : List (Int × Ms)) = L at h
  cases h with
  | nil => rfl
  | snoc => simp at hL
theorem OutC.one {cs : List Value} {t : Int} {m : Ms} (h : OutC cs [(t, m)]) : ∃ bv, cs = (outC t m (.slice none 0 0) bv).toList := by
  generalize hL : [(t, m)] = L at h
  cases h with
  | nil => cases hL
  | @snoc cs' L' t' m' bv h' =>
    have : L' = [] := by
      cases L' with
      | nil => rfl
      | cons a r => simp at hL
    subst this
    simp at hL
    obtain ⟨rfl, rfl⟩ := hL
    rw [h'.no]
    exact ⟨bv, by simp⟩
set_option maxHeartbeats 4000000 in
theorem cawake_any (w : World) : Calls Try.prog 6 #[] w fun e w' => e = .returned (.bool true) ∧ Below w.heap.size w w' := by
  go_enter Try.func6, Try.ntmps6
  go_wp2_with fail
  obtain ⟨hr, ho, hb⟩ := new_args w [3, 4] [0, 1] (by decide) (by decide) 3 29 3
  refine ((SepW.nil hb).cliNew (id := 7) (by constructor <;> decide) (by decide) hr (by decide) ho (by decide) (by decide)).mono ?_
  rintro e w1 ⟨b0, D, rfl, hs1⟩
  have HS1 : Hid (SepW w w1 [obCli (.pointer (some ⟨b0, 0, none⟩)) D 0 cw0]) := Lib.hid hs1
  clear hs1 hr ho hb
  go_wp2_with fail
  refine (HS1.out.cliBegin 0 rfl (x := cx1) (sv := .slice none 0 0) (SlR.nil _) ⟨by decide, by decide, by decide, by constructor <;> decide, (by intro a ha; cases ha), by decide, (fun h => absurd h (by decide))⟩ (Or.inl rfl) (Or.inr (Or.inr rfl)) (fun h => absurd h (by decide)) (by decide) (by decide)).mono ?_
  rintro e w2 ⟨g, bv, D2, rfl, hs2⟩
  have HS2 : Hid (SepW w w2 [obBlk g (.cells (outC 0 ⟨16, 0, 0, 0, 0, 7, 1, 5, 3, [], []⟩ (.slice none 0 0) bv) 48), obCli (.pointer (some ⟨b0, 0, none⟩)) D2 2 (begL cw0 cx1 1)]) := Lib.hid hs2
  clear hs2 HS1
  go_wp2_with fail
  have hA1 : ∀ b, ((begL cw0 cx1 1).l b).isSome = true ↔ b = 1 := fun b => by
    unfold begL setL lastL cw0
    simp only
    by_cases e : b = 1
    · subst e; simp
    · simp [e]
  refine (HS2.out.cliTick 1 rfl (K := [1]) (by decide) (fun a ha => by simp [(hA1 a).1 ha]) (fun a x m e => by
    unfold begL setL lastL cw0 at e
    simp only at e
    split at e
    · cases e; decide
    · cases e)).mono ?_
  rintro e w3 ⟨ks, ao, c, cs, hks, rfl, hcs, hs3⟩
  obtain rfl := keys_one hks hA1
  obtain ⟨bv3, rfl⟩ := OutC.one (t := 1) (m := ⟨16, 0, 0, 0, 0, 7, 1, 5, 3, [], []⟩) hcs
  have HS3 : Hid (SepW w w3 [obRow (.slice ao 1 c) 48 12 1 (outC 1 ⟨16, 0, 0, 0, 0, 7, 1, 5, 3, [], []⟩ (.slice none 0 0) bv3).toList, obBlk g (.cells (outC 0 ⟨16, 0, 0, 0, 0, 7, 1, 5, 3, [], []⟩ (.slice none 0 0) bv) 48), obCli (.pointer (some ⟨b0, 0, none⟩)) D2 3 (tickA (begL cw0 cx1 1))]) := Lib.hid hs3
  clear hs3 HS2 hA1 hks hcs
  go_wp2_with (first | (refine wpList_buildA rfl 39 _ rfl (msC ⟨17, 0, 0, 0, 0, 7, 1, 0, 36, [], []⟩ (.slice none 0 0) (.slice none 0 0)) (by kernel_rfl) ?_) | fail)
  refine (HS3.out.cliYes 2 rfl (m := ⟨17, 0, 0, 0, 0, 7, 1, 0, 36, [], []⟩) (x := cx1) (k := 2) rfl (by constructor <;> decide) (by decide) (SlR.nil _) (by intro a ha; cases ha) (by decide) rfl rfl).mono ?_
  rintro e w4 ⟨so4, sl4, sc4, code, q, f, o, bo4, bl4, bc4, at4, rfl, hcode, hs4⟩
  obtain rfl : code = 36 := hcode (Or.inl (by decide))
  have HS4 := Lib.hid hs4
  clear hs4 HS3 hcode
  simp only [List.set_cons_succ, List.set_cons_zero] at HS4
  have HS5 := Lib.hid (HS4.out.newBlk (repC 1 cx1 (.slice so4 sl4 sc4) 36 q f o (.slice bo4 bl4 bc4) at4) 41)
  clear HS4
  obtain ⟨g3, c3, hg3, _, hc3⟩ := own_cells (HS5.out.get 1 rfl : World.ownsRow _ 0 _ 12 _ 1 _) (by decide)
  cases hg3
  have a0 := hc3 0 _ rfl
  obtain ⟨x0, _⟩ := HS5.out.blk 2 rfl 0 _ rfl
  obtain ⟨x1, _⟩ := HS5.out.blk 2 rfl 1 _ rfl
  obtain ⟨x8, _⟩ := HS5.out.blk 2 rfl 8 _ rfl
  obtain ⟨x9, _⟩ := HS5.out.blk 2 rfl 9 _ rfl
  have HO := Lib.hid (HS5.out.cliOpen 3 rfl (K := []) (by decide) (by decide) (fun a ha => by
    unfold setL tickA begL setL lastL cw0 at ha
    simp only at ha
    by_cases e : a = 1
    · simp [e] at ha
    · simp [e] at ha))
  clear hc3
  go_wp2_with (first
    | (refine wpList_fill rfl 41 (.tmp 7) (.tmp 35) rfl w4.heap.size rfl (repC 1 cx1 (.slice so4 sl4 sc4) 36 q f o (.slice bo4 bl4 bc4) at4) _ _ rfl rfl (by kernel_rfl) rfl (by kernel_rfl) ?_)
    | fail)
  refine HO.out.mono ?_
  rintro e w6 ⟨ks, ko, kc, hks, rfl, hs6⟩
  obtain rfl := keys_none hks (fun b => by
    unfold setL tickA begL setL lastL cw0
    simp only
    by_cases e : b = 1
    · simp [e]
    · simp [e])
  have HB6 := Lib.hid hs6.below
  clear hks hs6 HO
  go_wp2_with fail
  go_ret
  exact ⟨rfl, HB6.out⟩
end Go.Proofs.Ytdmfladjhjpafaa
