/-
  Package client: Open: the numbers of what is open, rising.
-/
import Derived.Test.YtdmfladjhjpafaaCli9
import Derived.Test.YtdmfladjhjpafaaKeyC
import Derived.Test.YtdmfladjhjpafaaKeyU
namespace Go.Proofs.Ytdmfladjhjpafaa
open Go.ChangeShapes Go.WideShapes Go.ChangeAt Go.RowKit Go.Maps Go.Shelf
set_option maxRecDepth 1000000

/-- The numbers of what is open, rising. -/
def IsCKeys (l : Int → Option (Cl × Int)) (ks : List Int) : Prop := ks.Pairwise (· < ·) ∧ ∀ x, x ∈ ks ↔ (l x).isSome = true
theorem IsCKeys.of {w : World} {D : Nat → Prop} {b0 bm N : Nat} {A : CS} (h : CliR w D b0 bm N A) : ∃ f, MapR w Try.prog 28 bm N f ∧ (∀ ks, SortedKeys f ks → IsCKeys A.l ks) ∧ ∀ ss, AllKeys f ss → ∀ x ∈ ss, (A.l x).isSome = true := by
  obtain ⟨f, hf, hv, hx⟩ := h.map.at_
  have key : ∀ x : Int, (f (.int .u64 x)).isSome = true ↔ (A.l x).isSome = true := by
    intro x
    constructor
    · intro hs
      obtain ⟨a, ha, e⟩ := hx _ hs
      cases e
      have := hv x ha
      cases hl : A.l x with
      | none => rw [hl] at this; have h0 : f (.int .u64 x) = none := this; rw [h0] at hs; cases hs
      | some v => rfl
    · intro hs
      obtain ⟨v, hl⟩ := Option.isSome_iff_exists.1 hs
      obtain ⟨y, m⟩ := v
      have := hv x (h.map.small x y m hl).1
      rw [hl] at this
      obtain ⟨sv, e, _⟩ := this
      rw [e]; rfl
  exact ⟨f, hf, fun ks hk => ⟨hk.1, fun x => (hk.2 x).trans (key x)⟩, fun ss hs x hx => (key x).1 ((hs.2 x).1 hx)⟩
/-- A row of the open ones. -/
def RetOp (l : Int → Option (Cl × Int)) (w : World) (e : Ending) (w' : World) : Prop := ∃ ks ao c, IsCKeys l ks ∧ e = .returned (.slice ao ks.length c) ∧ w'.ownsRow w.heap.size 28 1 (.slice ao ks.length c) ks.length (u64s ks) ∧ Below w.heap.size w w'
set_option maxHeartbeats 4000000 in
theorem copen_any {D : Nat → Prop} {w : World} {b0 bm N : Nat} {A : CS} (h : CliR w D b0 bm N A) (hN : N ≤ 1000000) {K : List Int} (hK : K.length < 1000000) (hKs : ∀ a, (A.l a).isSome = true → a ∈ K) :
    Calls Try.prog 10 #[.pointer (some ⟨b0, 0, none⟩)] w (RetOp A.l w) := by
  have H := Lib.hid h
  have HKs := Lib.hid hKs
  have hb1 := h.lt bm (h.dr _ (Or.inr rfl))
  obtain ⟨_, _, ⟨-, -, -, -, c4⟩, -⟩ := h.cell
  clear h hKs
  go_enter Try.func10, Try.ntmps10
  go_wp2_with fail
  refine (keysC_any (some bm) w).mono ?_
  rintro e w2 ⟨rfl, rfl⟩
  have hA := (Below.refl w.heap.size w).alloc (Nat.le_refl _) (.cells #[.map (some bm)] 55)
  have HA := Lib.hid hA
  have hRA := H.out.below hA (Nat.le_refl _)
  obtain ⟨f, hf, hks, hall⟩ := IsCKeys.of hRA
  obtain ⟨N', hN', hseq⟩ := keysC_stops Fence.wide 1 trivial rfl (Nat.le_refl _) w.heap.size bm N (w.alloc (.cells #[.map (some bm)] 55)) (by simp) (World.news_of_block (heap_alloc_new w _) 0 _ rfl) hf
  have HSo := Lib.hid (sortedU_any 36 #[.pointer (some ⟨w.heap.size, 0, none⟩)] (enters_of Try.func36 (by kernel_rfl) rfl) (AllKeys f) N' (by omega)
    (fun ss hs => Nat.lt_of_le_of_lt (nodup_le hs.1 (fun a ha => HKs.out a (hall ss hs a ha))) hK) _ hseq)
  have HKy := Lib.hid hks
  clear hA hRA hf hks hall hseq
  go_wp2_with fail
  refine HSo.out.mono ?_
  rintro e w2 ⟨v, ss, rfl, hS, hown2, hb2⟩
  have hisk := HKy.out _ hS.sorted
  have hlen : ss.length = (ss.mergeSort (fun x y => decide (x ≤ y))).length := by simp
  rw [hlen] at hown2
  generalize ss.mergeSort (fun x y => decide (x ≤ y)) = ks at *
  obtain ⟨ko, kc, hve, _, _⟩ := own_form hown2
  subst hve
  have HO := Lib.hid (hown2.weaken (by simp : w.heap.size ≤ _))
  have HB := Lib.hid (HA.out.trans (hb2.mono (by simp)))
  have HI := Lib.hid hisk
  clear hown2 hb2 hisk hS hlen HSo HKy
  go_wp2_with fail
  go_ret
  exact ⟨ks, ko, kc, HI.out, rfl, HO.out, HB.out⟩
end Go.Proofs.Ytdmfladjhjpafaa
