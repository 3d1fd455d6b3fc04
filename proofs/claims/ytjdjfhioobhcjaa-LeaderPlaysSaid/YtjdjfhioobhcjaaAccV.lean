/-
  The document's acceptor: rows of votes with texts, and its functions' walks.
-/
import Derived.Test.YtjdjfhioobhcjaaAccP
import Derived.Test.YtjdjfhioobhcjaaLibT
namespace Go.Proofs.Ytjdjfhioobhcjaa
open Go.ChangeShapes Go.WideShapes Go.ChangeAt Go.RowKit Go.Maps Go.Shelf
set_option maxRecDepth 100000

/-- Votes with texts, as cells. -/
def rfC (hs : List Vt) : List Value := hs.flatMap fun s => [.int .u64 s.slot, .int .u64 s.ballot, .string (strB s.val)]
theorem rfC_len (hs : List Vt) : (rfC hs).length = hs.length * 3 := by
  induction hs with
  | nil => rfl
  | cons s r ih => simp only [rfC, List.flatMap_cons, List.length_append, List.length_cons, List.length_nil] at *; omega
theorem rfC_app (a b : List Vt) : rfC (a ++ b) = rfC a ++ rfC b := by simp [rfC]
theorem rfC_snoc (a : List Vt) (s : Vt) : rfC (a ++ [s]) = rfC a ++ [.int .u64 s.slot, .int .u64 s.ballot, .string (strB s.val)] := by simp [rfC]
theorem rfC_at {hs : List Vt} {i : Nat} {s : Vt} (h : hs[i]? = some s) : (rfC hs)[i * 3]? = some (.int .u64 s.slot) ∧ (rfC hs)[i * 3 + 1]? = some (.int .u64 s.ballot) ∧ (rfC hs)[i * 3 + 2]? = some (.string (strB s.val)) := by
  induction hs generalizing i with
  | nil => simp at h
  | cons x r ih =>
    have e : rfC (x :: r) = .int .u64 x.slot :: .int .u64 x.ballot :: .string (strB x.val) :: rfC r := by simp [rfC]
    rw [e]
    cases i with
    | zero => simp at h; subst h; exact ⟨rfl, rfl, rfl⟩
    | succ i =>
      obtain ⟨h1, h2, h3⟩ := ih (by simpa using h)
      rw [show (i + 1) * 3 = i * 3 + 3 by omega]
      exact ⟨h1, h2, h3⟩
/-- A slice that reads as votes with texts. -/
def RfL (w : World) (v : Value) (hs : List Vt) : Prop := ∃ ao c, v = .slice ao hs.length c ∧ hs.length ≤ c ∧ c ≤ 9223372036854775807 ∧
  ∀ (i : Nat) s, hs[i]? = some s → ∃ a, ao = some a ∧ w.cell? (a.add (i * 3)) = some (.int .u64 s.slot) ∧ w.cell? ⟨(a.add (i * 3)).block, (a.add (i * 3)).off + 1, none⟩ = some (.int .u64 s.ballot) ∧
    w.cell? ⟨(a.add (i * 3)).block, (a.add (i * 3)).off + 2, none⟩ = some (.string (strB s.val))
theorem RfL.nil (w : World) : RfL w (.slice none 0 0) [] := ⟨none, 0, rfl, Nat.le_refl _, by omega, by simp⟩
theorem RfL.below {B : Nat} {w w' : World} {v : Value} {hs : List Vt} (h : RfL w v hs) (hb : Below B w w') (hB : w.heap.size ≤ B) : RfL w' v hs := by
  obtain ⟨ao, c, e, h1, h2, hx⟩ := h
  refine ⟨ao, c, e, h1, h2, fun i s hs => ?_⟩
  obtain ⟨a, ha, c1, c2, c3⟩ := hx i s hs
  refine ⟨a, ha, ?_, ?_, ?_⟩
  · rw [hb.cell (by have := World.block_lt_of_cell? w _ c1; omega)]; exact c1
  · rw [hb.cell (by have := World.block_lt_of_cell? w _ c2; omega)]; exact c2
  · rw [hb.cell (by have := World.block_lt_of_cell? w _ c3; omega)]; exact c3
theorem RfL.of_own {w : World} {base : Nat} {e : TypeId} {v : Value} {n : Nat} {hs : List Vt} (h : w.ownsRow base e 3 v n (rfC hs)) : RfL w v hs := by
  have hn : n = hs.length := by have := h.1; have := rfC_len hs; omega
  subst hn
  rcases h.2 with ⟨rfl, h0⟩ | ⟨g, cap, cur, rfl, hb, hg, hnc, hcm, hcs, htake⟩
  · have : hs = [] := List.eq_nil_of_length_eq_zero h0
    subst this
    exact RfL.nil w
  · unfold maxLen at hcm
    refine ⟨some ⟨g, 0, none⟩, cap, rfl, hnc, by omega, fun i s hr => ?_⟩
    obtain ⟨h1, h2, h3⟩ := rfC_at hr
    refine ⟨_, rfl, h.cells (g := g) rfl _ _ h1, ?_, ?_⟩
    · rw [add_more _ _ _ (by omega)]; exact h.cells (g := g) rfl _ _ h2
    · rw [add_more _ _ _ (by omega)]; exact h.cells (g := g) rfl _ _ h3
theorem Try.rvInfo : (Try.prog.info? 56).map (fun i => (i.zero, i.size, i.bytes)) = some (some (.agg #[.int .u64 0, .int .u64 0, .string ⟨#[]⟩]), 3, 32) := by kernel_rfl

/-- What comes out: a new row. -/
def RetRf (w : World) (hs : List Vt) (e : Ending) (w' : World) : Prop := ∃ ao c, e = .returned (.slice ao hs.length c) ∧ w'.ownsRow w.heap.size 56 3 (.slice ao hs.length c) hs.length (rfC hs) ∧ Below w.heap.size w w'
set_option maxHeartbeats 2000000 in
theorem votes_any {w : World} {v : Value} {hs : List Vt} (h : VtL w v hs) (hl : hs.length ≤ 1000000) : Calls Try.prog 24 #[v] w (RetRf w hs) := by
  obtain ⟨i0, hi, hz0, hz1, hz2⟩ := info_parts Try.rvInfo
  have H := Lib.hid h
  obtain ⟨ao, ac, rfl, h1, h2, hx⟩ := h
  have HX := Lib.hid hx
  clear hx
  go_enter Try.func24, Try.ntmps24
  go_wp2_with fail
  go_loopw [4, 3] (fun i ov wr => ∃ (k : Nat) (o : Option Addr) (c : Nat), k ≤ hs.length ∧ i = .int .i64 k ∧ ov = .slice o k c ∧ wr.ownsRow w.heap.size 56 3 (.slice o k c) k (rfC (hs.take k)) ∧ Below w.heap.size w wr) (fun i _ _ => hs.length - (intOf i).toNat)
  case atStart => exact ⟨0, none, 0, by omega, rfl, rfl, by simpa [rfC] using World.ownsRow_nil _ _ _ _, Below.refl _ _⟩
  case round =>
    obtain ⟨k, o, c, hk, rfl, rfl, hown, hbl⟩ := hrel
    have HO := Lib.hid hown
    have HB := Lib.hid hbl
    by_cases hlt : k < hs.length
    · have hki : (k : Int) < (hs.length : Int) := by omega
      obtain ⟨s, hsk⟩ : ∃ s, hs[k]? = some s := ⟨_, List.getElem?_eq_getElem hlt⟩
      obtain ⟨a, sv, rfl, c0, c1, c2, hsl⟩ := HX.out k s hsk
      obtain ⟨so, sc, rfl, g1, g2⟩ := hsl.form
      simp only [List.length_map] at c2 hsl g1 g2
      have HAll : Hid (∀ w' : World, Below w.heap.size w w' → w'.cell? (a.add (k * 3)) = some (.int .u64 s.slot) ∧ w'.cell? ⟨(a.add (k * 3)).block, (a.add (k * 3)).off + 1, none⟩ = some (.int .u64 s.ballot) ∧ w'.cell? ⟨(a.add (k * 3)).block, (a.add (k * 3)).off + 2, none⟩ = some (.slice so s.val.length sc) ∧ (convert 30 9 (.slice so s.val.length sc)).run Try.prog w' = .ok (.string (strB s.val)) w') := Lib.hid fun w' hb =>
        ⟨(hb.cell (World.block_lt_of_cell? _ _ c0)).trans c0, (hb.cell (World.block_lt_of_cell? _ _ c1)).trans c1, (hb.cell (World.block_lt_of_cell? _ _ c2)).trans c2, run_strB (P := Try.prog) (src := 30) (dst := 9) Try.underlying30 Try.underlying5 Try.underlying9 (hsl.below hb (Nat.le_refl _))⟩
      have HT : Hid (rfC (hs.take (k + 1)) = rfC (hs.take k) ++ [.int .u64 s.slot, .int .u64 s.ballot, .string (strB s.val)]) := Lib.hid (by
        obtain ⟨q1, q2⟩ := List.getElem?_eq_some_iff.1 hsk
        rw [List.take_succ_eq_append_getElem q1, q2, rfC_snoc])
      have HU : Hid (∀ u ∈ (#[.int .u64 s.slot, .int .u64 s.ballot, .string (strB s.val)] : Array Value).toList, u.oneCell' = true) := Lib.hid (by intro u hu; simp at hu; rcases hu with rfl | rfl | rfl <;> rfl)
      clear hown hbl hsk c0 c1 c2 hsl
      have hS0 := HAll.out wr HB.out
      obtain ⟨c0, c1, c2, r0⟩ := hS0
      clear r0
      generalize hcs : rfC (hs.take k) = cs at *
      have HCs := Lib.hid hcs
      clear hcs
      have hk40 : k ≤ 1099511627776 := by omega
      have HBd := Lib.hid (HB.out.drew)
      go_wp2_with fail
      have hS1 := HAll.out wr.drew HBd.out
      go_region_held3 (fun w' => w'.cell? (a.add (k * 3)) = some (.int .u64 s.slot) ∧ w'.cell? ⟨(a.add (k * 3)).block, (a.add (k * 3)).off + 1, none⟩ = some (.int .u64 s.ballot) ∧ w'.cell? ⟨(a.add (k * 3)).block, (a.add (k * 3)).off + 2, none⟩ = some (.slice so s.val.length sc) ∧ (convert 30 9 (.slice so s.val.length sc)).run Try.prog w' = .ok (.string (strB s.val)) w') (first | exact hS1 | exact hS7 | exact HAll.out _ HBd.out | exact HAll.out _ (HBd.out.alloc HBd.out.size _) | go_keep)
        (first
          | (refine step_appS rfl (.tmp 11) (.tmp 29) 46 rfl w.heap.size 56 i0 _ 3 32 Try.underlying46 hi hz0 hz1 hz2 rfl (by decide) (by decide) rfl rfl (heap_alloc_new _ _) rfl (HO.out.drew.alloc _) HU.out hk40 (by simp; exact Nat.le_succ_of_le HB.out.size) ?_
             intro g7 cap7 w7 hown7 hb7 _ _
             have HO7 := Lib.hid hown7
             have HB7 := Lib.hid ((HBd.out.alloc HBd.out.size _).trans hb7)
             have hS7 := HAll.out _ HB7.out
             clear hown7 hb7))
      go_wp2_with fail
      go_roundw
      case rel => exact ⟨k + 1, _, _, by omega, by go_num, rfl, by rw [HT.out]; exact HO7.out, HB7.out⟩
      case measure => simp [intOf]; omega
    · have hkl : k = hs.length := by omega
      rw [hkl, List.take_length] at HO
      have HKl := Lib.hid hkl
      have hkd : decide ((k : Int) < (hs.length : Int)) = false := decide_eq_false (by omega)
      clear hown hbl hkl
      go_wp2_with fail
      go_ret
      rw [HKl.out]
      exact ⟨o, c, rfl, HO.out, HB.out⟩
end Go.Proofs.Ytjdjfhioobhcjaa
