/-
  Package acceptor: an acceptor among other things of the call's own.
-/
import Derived.Test.YtgmdedkingampaaGreatAcc4
import Derived.Test.YtgmdedkingampaaGreatKeyU
import Derived.Test.YtgmdedkingampaaGreatKeyV
set_option linter.unusedVariables false
set_option linter.unusedSimpArgs false
namespace Go.Proofs.YtgmdedkingampaaGreat
open Go.ChangeShapes Go.WideShapes Go.ChangeAt Go.RowKit Go.Maps Go.Shelf
set_option maxRecDepth 100000

/-- Cells that read as votes. -/
def VtC (w : World) (vs : List Value) (hs : List Vt) : Prop :=
  vs.length = hs.length * 3 ∧ ∀ (i : Nat) s, hs[i]? = some s → vs[i * 3]? = some (.int .u64 s.slot) ∧ vs[i * 3 + 1]? = some (.int .u64 s.ballot) ∧ (∃ sv, vs[i * 3 + 2]? = some sv ∧ SlR w sv (u8s s.val))
theorem VtC.nil (w : World) : VtC w [] [] := ⟨rfl, by simp⟩
theorem VtC.below {B : Nat} {w w' : World} {vs : List Value} {hs : List Vt} (h : VtC w vs hs) (hb : Below B w w') (hB : w.heap.size ≤ B) : VtC w' vs hs :=
  ⟨h.1, fun i s hr => by obtain ⟨h1, h2, sv, h3, h4⟩ := h.2 i s hr; exact ⟨h1, h2, sv, h3, h4.below hb hB⟩⟩
theorem VtC.keep {S : Nat → Prop} {w w' : World} {vs : List Value} {hs : List Vt} (h : VtC w vs hs) (hk : Keep S w w') (ho : ∀ u ∈ vs, Off S u) : VtC w' vs hs :=
  ⟨h.1, fun i s hr => by obtain ⟨h1, h2, sv, h3, h4⟩ := h.2 i s hr; exact ⟨h1, h2, sv, h3, h4.keep hk (ho sv (List.mem_of_getElem? h3))⟩⟩
theorem VtC.snoc {w : World} {vs : List Value} {hs : List Vt} {s : Vt} {sv : Value} (h : VtC w vs hs) (hs' : SlR w sv (u8s s.val)) : VtC w (vs ++ [.int .u64 s.slot, .int .u64 s.ballot, sv]) (hs ++ [s]) := by
  refine ⟨by simp [h.1]; omega, fun i x hx => ?_⟩
  rw [List.getElem?_append] at hx
  have hl := h.1
  by_cases hi : i < hs.length
  · rw [if_pos hi] at hx
    obtain ⟨h1, h2, sv', h3, h4⟩ := h.2 i x hx
    exact ⟨by rw [List.getElem?_append_left (by omega)]; exact h1, by rw [List.getElem?_append_left (by omega)]; exact h2, sv', by rw [List.getElem?_append_left (by omega)]; exact h3, h4⟩
  · rw [if_neg hi] at hx
    have hi0 : i = hs.length := by
      have := (List.getElem?_eq_some_iff.1 hx).1
      simp at this; omega
    subst hi0
    simp at hx
    subst hx
    refine ⟨?_, ?_, sv, ?_, hs'⟩
    · rw [List.getElem?_append_right (by omega), hl, Nat.sub_self]; rfl
    · rw [List.getElem?_append_right (by omega), hl, show hs.length * 3 + 1 - hs.length * 3 = 1 by omega]; rfl
    · rw [List.getElem?_append_right (by omega), hl, show hs.length * 3 + 2 - hs.length * 3 = 2 by omega]; rfl
/-- A slice that reads as votes. -/
def VtL (w : World) (v : Value) (hs : List Vt) : Prop := ∃ ao c, v = .slice ao hs.length c ∧ hs.length ≤ c ∧ c ≤ 9223372036854775807 ∧
  ∀ (i : Nat) s, hs[i]? = some s → ∃ a sv, ao = some a ∧ w.cell? (a.add (i * 3)) = some (.int .u64 s.slot) ∧ w.cell? ⟨(a.add (i * 3)).block, (a.add (i * 3)).off + 1, none⟩ = some (.int .u64 s.ballot) ∧
    w.cell? ⟨(a.add (i * 3)).block, (a.add (i * 3)).off + 2, none⟩ = some sv ∧ SlR w sv (u8s s.val)
theorem VtL.nil (w : World) : VtL w (.slice none 0 0) [] := ⟨none, 0, rfl, Nat.le_refl _, by omega, by simp⟩
theorem VtL.below {B : Nat} {w w' : World} {v : Value} {hs : List Vt} (hb : Below B w w') (hB : w.heap.size ≤ B) (h : VtL w v hs) : VtL w' v hs := by
  obtain ⟨ao, c, e, h1, h2, hx⟩ := h
  refine ⟨ao, c, e, h1, h2, fun i s hs => ?_⟩
  obtain ⟨a, sv, ha, c1, c2, c3, hs⟩ := hx i s hs
  refine ⟨a, sv, ha, ?_, ?_, ?_, hs.below hb hB⟩
  · rw [hb.cell (by have := World.block_lt_of_cell? w _ c1; omega)]; exact c1
  · rw [hb.cell (by have := World.block_lt_of_cell? w _ c2; omega)]; exact c2
  · rw [hb.cell (by have := World.block_lt_of_cell? w _ c3; omega)]; exact c3
theorem VtL.of_own {w : World} {base : Nat} {e : TypeId} {v : Value} {n : Nat} {vs : List Value} {hs : List Vt} (h : w.ownsRow base e 3 v n vs) (hc : VtC w vs hs) : VtL w v hs := by
  have hn : n = hs.length := by have := h.1; have := hc.1; omega
  subst hn
  rcases h.2 with ⟨rfl, h0⟩ | ⟨g, cap, cur, rfl, hb, hg, hnc, hcm, hcs, htake⟩
  · have : hs = [] := List.eq_nil_of_length_eq_zero h0
    subst this
    exact VtL.nil w
  · unfold maxLen at hcm
    refine ⟨some ⟨g, 0, none⟩, cap, rfl, hnc, by omega, fun i s hr => ?_⟩
    obtain ⟨h1, h2, sv, h3, h4⟩ := hc.2 i s hr
    refine ⟨_, sv, rfl, h.cells (g := g) rfl _ _ h1, ?_, ?_, h4⟩
    · rw [add_more _ _ _ (by omega)]; exact h.cells (g := g) rfl _ _ h2
    · rw [add_more _ _ _ (by omega)]; exact h.cells (g := g) rfl _ _ h3
/-- A row of votes, each with a slice of its own. -/
def obVts (v : Value) (e : TypeId) (vs : List Value) (hs : List Vt) : Ob :=
  ⟨fun k => v.ownBlock = some k ∨ ∃ u ∈ vs, u.ownBlock = some k, fun w => w.ownsRow 0 e 3 v hs.length vs ∧ VtC w vs hs ∧ (∀ u ∈ vs, ∀ k, u.ownBlock = some k → v.ownBlock ≠ some k ∧ k < w.heap.size)⟩
theorem obVts_good (v : Value) (e : TypeId) (vs : List Value) (hs : List Vt) : (obVts v e vs hs).Good :=
  ⟨fun {S w w'} h hk hs => ⟨own_keepS hk h.1 (fun k hv hS => hs k hS (Or.inl hv)), h.2.1.keep hk (fun u hu k hv hS => hs k hS (Or.inr ⟨u, hu, hv⟩)), fun u hu k hv => ⟨(h.2.2 u hu k hv).1, Nat.lt_of_lt_of_le (h.2.2 u hu k hv).2 hk.size⟩⟩,
   fun {w} h k hk => by
    rcases hk with e | ⟨u, hu, e⟩
    · exact (h.1.lt k e).2
    · exact (h.2.2 u hu k e).2⟩
/-- A vote with its own slice joins the row. -/
theorem Sep.vtApp {B : Nat} {w w' : World} {os : List Ob} {v lv : Value} {e eu : TypeId} {vs : List Value} {hs : List Vt} {n g cap : Nat} {s : Vt} {o : Obj} (h : Sep B w (obVts v e vs hs :: obRow lv eu 1 n (u8s s.val) :: os)) (hg : (w.alloc o).grownBy w' v.ownBlock) (hor : v.ownBlock = some g ∨ g = w.heap.size + 1)
    (hown : w'.ownsRow 0 e 3 (.slice (some ⟨g, 0, none⟩) (hs.length + 1) cap) (hs.length + 1) (vs ++ [.int .u64 s.slot, .int .u64 s.ballot, lv])) :
    Sep B w' (obVts (.slice (some ⟨g, 0, none⟩) (hs.length + 1) cap) e (vs ++ [.int .u64 s.slot, .int .u64 s.ballot, lv]) (hs ++ [s]) :: os) ∧ Keep (fun k => v.ownBlock = some k) w w' := by
  have hk : Keep (fun k => v.ownBlock = some k) w w' := (Below.keep0 _ ((Below.refl _ _).alloc (Nat.le_refl _) o)).trans (Keep.grown hg (fun k hk => hk))
  have h0 := h.get 0 rfl
  have h1 : w.ownsRow 0 eu 1 lv n (u8s s.val) := h.get 1 rfl
  have hd := h.two (i := 0) (j := 1) (by omega) rfl rfl
  have hlv : Off (fun k => v.ownBlock = some k) lv := fun k hk hv => hd k (Or.inl hv) hk
  have h1' := own_keepS hk h1 hlv
  have hgne : ∀ k, k < w.heap.size → v.ownBlock ≠ some k → (Value.slice (some ⟨g, 0, none⟩) (hs.length + 1) cap).ownBlock ≠ some k := fun k hk' hne hh => by
    cases hh
    rcases hor with hh | hh
    · exact hne hh
    · have : g < w.heap.size := hk'
      omega
  refine ⟨h.join (hk.mono (fun k _ hv => Or.inl (Or.inl hv))) (obVts_good ..) ⟨by rw [List.length_append]; exact hown, (h0.2.1.keep hk (fun u hu k hk' hv => (h0.2.2 u hu k hk').1 hv)).snoc (SlR.of_own h1'), fun u hu k hk' => ?_⟩ (fun k hf => ?_), hk⟩
  · rcases List.mem_append.1 hu with hu | hu
    · exact ⟨hgne k (h0.2.2 u hu k hk').2 (h0.2.2 u hu k hk').1, Nat.lt_of_lt_of_le (h0.2.2 u hu k hk').2 hk.size⟩
    · simp at hu
      rcases hu with rfl | rfl | rfl
      · cases hk'
      · cases hk'
      · exact ⟨hgne k (h1.lt k hk').2 (fun hv => hd k (Or.inl hv) hk'), (h1'.lt k hk').2⟩
  · rcases hf with hf | ⟨u, hu, hf⟩
    · cases hf
      rcases hor with hh | hh
      · exact Or.inl (Or.inl (Or.inl hh))
      · exact Or.inr (by show w.heap.size ≤ g; omega)
    · rcases List.mem_append.1 hu with hu | hu
      · exact Or.inl (Or.inl (Or.inr ⟨u, hu, hf⟩))
      · simp at hu
        rcases hu with rfl | rfl | rfl
        · cases hf
        · cases hf
        · exact Or.inl (Or.inr hf)

end Go.Proofs.YtgmdedkingampaaGreat

namespace Go.Proofs.YtgmdedkingampaaGreat
open Go.ChangeShapes Go.WideShapes Go.ChangeAt Go.RowKit Go.Maps Go.Shelf
set_option maxRecDepth 100000

/-- The slots voted for, rising. -/
def IsKeys (l : Int → Option Vt) (ks : List Int) : Prop := ks.Pairwise (· < ·) ∧ ∀ x, x ∈ ks ↔ (l x).isSome = true
/-- The votes from a slot on. -/
def votL (l : Int → Option Vt) (ks : List Int) (fr : Int) : List Vt := (ks.filter (fun x => decide (fr ≤ x))).filterMap l
theorem votL_take {l : Int → Option Vt} {ks : List Int} {fr : Int} {k : Nat} {x : Int} {v : Vt} (hk : ks[k]? = some x) (hv : l x = some v) : votL l (ks.take (k + 1)) fr = if fr ≤ x then votL l (ks.take k) fr ++ [v] else votL l (ks.take k) fr := by
  obtain ⟨h1, h2⟩ := List.getElem?_eq_some_iff.1 hk
  unfold votL
  rw [List.take_succ_eq_append_getElem h1, h2, List.filter_append, List.filterMap_append]
  by_cases e : fr ≤ x
  · rw [if_pos e]; simp [e, hv]
  · rw [if_neg e]; simp [e]
theorem votL_le (l : Int → Option Vt) (ks : List Int) (fr : Int) (k : Nat) : (votL l (ks.take k) fr).length ≤ k := by
  unfold votL
  have h1 := List.length_filterMap_le l ((ks.take k).filter (fun x => decide (fr ≤ x)))
  have h2 := List.length_filter_le (fun x => decide (fr ≤ x)) (ks.take k)
  have h3 := List.length_take_le k ks
  omega
theorem IsKeys.of {w : World} {D : Nat → Prop} {b0 bm N : Nat} {A : AS} (h : AccR w D b0 bm N A) : ∃ f, MapR w Tryz.prog 39 bm N f ∧ (∀ ks, SortedKeys f ks → IsKeys A.l ks) ∧ ∀ ss, AllKeys f ss → ∀ x ∈ ss, (A.l x).isSome = true := by
  obtain ⟨f, hf, hv, hx⟩ := h.map.vals
  have key : ∀ x : Int, (f (.int .u64 x)).isSome = true ↔ (A.l x).isSome = true := by
    intro x
    constructor
    · intro hs
      obtain ⟨a, ha, e⟩ := hx _ hs
      cases e
      have := hv x ha
      cases hl : A.l x with
      | none => rw [hl] at this; have h0 : f (.int .u64 x) = none := this; rw [h0] at hs; cases hs
      | some v => rfl
    · intro hs
      obtain ⟨v, hl⟩ := Option.isSome_iff_exists.1 hs
      have := hv x (h.map.small x v hl).1
      rw [hl] at this
      obtain ⟨sv, e, _⟩ := this
      rw [e]; rfl
  exact ⟨f, hf, fun ks hk => ⟨hk.1, fun x => (hk.2 x).trans (key x)⟩, fun ss hs x hx => (key x).1 ((hs.2 x).1 hx)⟩
set_option maxHeartbeats 1000000 in
theorem prepare_old {D : Nat → Prop} {w : World} {b0 bm N : Nat} {A : AS} (h : AccR w D b0 bm N A) {x fr : Int} (hx : x < A.promised) : Calls Tryz.prog 43 #[.pointer (some ⟨b0, 0, none⟩), .int .u64 x, .int .u64 fr] w fun e w' => e = .returned (.tuple #[.slice none 0 0, .int .i64 32]) ∧ w = w' := by
  have H := Lib.hid h
  clear h
  go_enter Tryz.func43, Tryz.ntmps43
  go_wp2_with fail
  refine (promise_old H.out hx).mono ?_
  rintro e w' ⟨rfl, rfl⟩
  go_wp2_with fail
  refine bodyPost_ret (v := .tuple #[.slice none 0 0, .int .i64 32]) (by simp [results, Tryz.results43, go_sem]) rfl ?_
  exact ⟨rfl, rfl⟩
/-- Votes, each with memory of its own; the acceptor behind it. -/
def RetPr (D : Nat → Prop) (b0 bm N : Nat) (A : AS) (x fr : Int) (w : World) (e : Ending) (w' : World) : Prop := ∃ ks ao c vs, IsKeys A.l ks ∧ e = .returned (.tuple #[.slice ao (votL A.l ks fr).length c, .int .i64 0]) ∧
  Sep w.heap.size w' [obVts (.slice ao (votL A.l ks fr).length c) 80 vs (votL A.l ks fr)] ∧ AccR w' D b0 bm N ⟨x, A.low, A.l⟩ ∧ Keep (fun k => k = b0) w w'
set_option maxHeartbeats 4000000 in
theorem prepare_ok {D : Nat → Prop} {w : World} {b0 bm N : Nat} {A : AS} (h : AccR w D b0 bm N A) {x fr : Int} (hx : A.promised ≤ x) (hu : U1 x) (hN : N ≤ 1000000) {K : List Int} (hK : K.length < 1000000) (hKs : ∀ a, (A.l a).isSome = true → a ∈ K) :
    Calls Tryz.prog 43 #[.pointer (some ⟨b0, 0, none⟩), .int .u64 x, .int .u64 fr] w (RetPr D b0 bm N A x fr w) := by
  have HP := Lib.hid (promise_ok h hx hu)
  have hb0 := h.lt _ h.d0
  obtain ⟨i0, hi, hz0, hz1, hz2⟩ := info_parts Tryz.voteInfo
  have HKs := Lib.hid hKs
  clear h hx hKs
  go_enter Tryz.func43, Tryz.ntmps43
  go_wp2_with fail
  refine HP.out.mono ?_
  rintro e w1 ⟨rfl, h1, hk1⟩
  have H1 := Lib.hid h1
  have HK1 := Lib.hid hk1
  have c2 := h1.cell.2.2.1
  have hb1 := h1.lt _ h1.d0
  have hsz := hk1.size
  clear h1 hk1 HP
  go_wp2_with fail
  refine (keysV_any (some bm) w1).mono ?_
  rintro e w2 ⟨rfl, rfl⟩
  have hA := (Below.refl w1.heap.size w1).alloc (Nat.le_refl _) (.cells #[.map (some bm)] 123)
  have HA := Lib.hid hA
  have hRA := H1.out.below hA (Nat.le_refl _)
  obtain ⟨f, hf, hks, hall⟩ := IsKeys.of hRA
  obtain ⟨N', hN', hseq⟩ := keysV_stops Fence.wide 1 trivial rfl (Nat.le_refl _) w1.heap.size bm N (w1.alloc (.cells #[.map (some bm)] 123)) (by simp) (World.news_of_block (heap_alloc_new w1 _) 0 _ rfl) hf
  have HSo := Lib.hid (sortedU_any 112 #[.pointer (some ⟨w1.heap.size, 0, none⟩)] (enters_of Tryz.func112 (by kernel_rfl) rfl) (AllKeys f) N' (by omega)
    (fun ss hs => Nat.lt_of_le_of_lt (nodup_le hs.1 (fun a ha => HKs.out a (hall ss hs a ha))) hK) _ hseq)
  have HKy := Lib.hid hks
  clear hA hRA hf hks hall hseq
  go_wp2_with fail
  refine HSo.out.mono ?_
  rintro e w2 ⟨v, ss, rfl, hS, hown2, hb2⟩
  have hisk := HKy.out _ hS.sorted
  have hlen : ss.length = (ss.mergeSort (fun x y => decide (x ≤ y))).length := by simp
  rw [hlen] at hown2
  generalize ss.mergeSort (fun x y => decide (x ≤ y)) = ks at *
  have hk50 : ks.length < 1000000 := Nat.lt_of_le_of_lt (nodup_le (hisk.1.imp (fun h => by omega)) (fun a ha => HKs.out a ((hisk.2 a).1 ha))) hK
  obtain ⟨ko, kc, hve, _, _⟩ := own_form hown2
  subst hve
  have hbw := HA.out.trans (hb2.mono (by simp))
  have HB2 := Lib.hid hbw
  have hsep : Sep w1.heap.size w2 [obVts (.slice none 0 0) 80 [] [], obRow (.slice ko ks.length kc) 39 1 ks.length (u64s ks)] := by
      refine ⟨fun o ho => ?_, fun o ho => ?_, fun o ho k hk => ?_, ?_, hbw.size⟩
      · simp at ho; rcases ho with rfl | rfl
        · exact obVts_good ..
        · exact obRow_good ..
      · simp at ho; rcases ho with rfl | rfl
        · exact ⟨World.ownsRow_nil _ _ _ _, VtC.nil _, by intro u hu; cases hu⟩
        · exact hown2.weaken (Nat.zero_le _)
      · simp at ho; rcases ho with rfl | rfl
        · rcases hk with hk | ⟨u, hu, _⟩
          · cases hk
          · cases hu
        · have := (hown2.lt k hk).1; simp at this; omega
      · refine List.Pairwise.cons (fun x hx k hk => ?_) (List.pairwise_singleton _ _)
        rcases hk with hk | ⟨u, hu, _⟩
        · cases hk
        · cases hu
  have HSep := Lib.hid hsep
  have HIs := Lib.hid hisk
  clear hown2 hb2 hbw hsep hisk hS hlen HSo HKy
  go_wp2_with fail
  go_loopw [27, 9, 11] (fun i ov _ wr => ∃ (k : Nat) (vs : List Value) (ao : Option Addr) (c : Nat), k ≤ ks.length ∧ i = .int .i64 k ∧ ov = .slice ao (votL A.l (ks.take k) fr).length c ∧ Sep w1.heap.size wr [obVts (.slice ao (votL A.l (ks.take k) fr).length c) 80 vs (votL A.l (ks.take k) fr), obRow (.slice ko ks.length kc) 39 1 ks.length (u64s ks)] ∧ Below w1.heap.size w1 wr) (fun i _ _ _ => ks.length - (intOf i).toNat)
  case atStart => exact ⟨0, [], none, 0, by omega, rfl, rfl, HSep.out, HB2.out⟩
  case round =>
    clear HSep HB2
    obtain ⟨k, vs, ao, c, hk, rfl, rfl, hsep, hbw⟩ := hrel
    have HSk := Lib.hid hsep
    have HBk := Lib.hid hbw
    clear hsep hbw
    by_cases hlt : k < ks.length
    · have hki : (k : Int) < (ks.length : Int) := by omega
      obtain ⟨id, hid⟩ : ∃ id, ks[k]? = some id := ⟨_, List.getElem?_eq_getElem hlt⟩
      obtain ⟨s, hsl⟩ := Option.isSome_iff_exists.1 ((HIs.out.2 id).1 (List.mem_of_getElem? hid))
      have hsm := H1.out.map.small id s hsl
      have hkown : World.ownsRow wr 0 39 1 (.slice ko ks.length kc) ks.length (u64s ks) := HSk.out.get 1 rfl
      obtain ⟨ka, kca, hke, _, _, hkx⟩ := SlR.of_own hkown
      simp only [List.length_map] at hke
      cases hke
      obtain ⟨kad, rfl, hkc⟩ := hkx k (.int .u64 id) (by rw [List.getElem?_map, hid]; rfl)
      have HTk := Lib.hid (votL_take (fr := fr) hid hsl)
      have hR := H1.out.below HBk.out (Nat.le_refl _)
      obtain ⟨lo, lc, _, hlk0, hsl2, hl1, hl2, hl3⟩ := hR.look (slot := id) hsm.1
      have hlk := hlk0 wr rfl
      rw [vOr_some (A := ⟨x, A.low, A.l⟩) hsl] at hlk hsl2 hl1 hl2
      have d2 := (HBk.out.cell (p := ⟨b0, 2, none⟩) hb1).trans c2
      have HCl := Lib.hid (copied_any hsl2 (by omega : s.val.length ≤ 1000000000))
      have hvl := votL_le A.l ks fr k
      have HVl := Lib.hid hvl
      have hk40 : (votL A.l (ks.take k) fr).length ≤ 1099511627776 := by omega
      clear hkown hkx hR hlk0 hsl2 hid hsl hvl
      by_cases hfr : fr ≤ id
      · have hTk := HTk.out
        rw [if_pos hfr] at hTk
        have HT1 := Lib.hid hTk
        clear hTk HTk
        go_wp2_with fail
        refine HCl.out.mono ?_
        rintro e w4 ⟨co, cc, rfl, hown4, hb4⟩
        have hs5 := HSk.out.new hb4 (obRow_good (.slice co s.val.length cc) 5 1 s.val.length (u8s s.val)) (hown4.weaken (Nat.zero_le _)) (fun q hq => (hown4.lt q hq).1)
        have HS5 := Lib.hid (hs5.front 1 rfl)
        have HB5 := Lib.hid (HBk.out.trans (hb4.mono HBk.out.size))
        have HO5 := Lib.hid ((HS5.out.get 0 rfl : (obVts (.slice ao (votL A.l (ks.take k) fr).length c) 80 vs (votL A.l (ks.take k) fr)).inv _).1)
        have HU4 : Hid (∀ u ∈ (#[.int .u64 s.slot, .int .u64 s.ballot, .slice co s.val.length cc] : Array Value).toList, u.oneCell' = true) := Lib.hid (by intro u hu; simp at hu; rcases hu with rfl | rfl | rfl <;> rfl)
        clear hown4 hb4 hs5 HCl
        go_wp2_with (first
          | (at_builtin; (refine wpList_appS rfl (.tmp 34) (.tmp 42) 90 rfl 0 80 i0 _ 3 40 Tryz.underlying90 hi hz0 hz1 hz2 rfl (by decide) (by decide) rfl rfl (by simp) rfl HO5.out HU4.out hk40 (Nat.zero_le _) ?_)
             intro g7 cap7 w7 hown7 hg7 hor7
             have HOwn7 := Lib.hid hown7
             have HG7 := Lib.hid hg7
             have HOr7 := Lib.hid hor7
             clear hown7 hg7 hor7)
          | fail)
        obtain ⟨hsA, hkA⟩ := HS5.out.vtApp (g := g7) (cap := cap7) (s := s) HG7.out HOr7.out HOwn7.out
        have hll : (votL A.l (ks.take k) fr).length + 1 = (votL A.l (ks.take (k + 1)) fr).length := by rw [HT1.out]; simp
        rw [hll] at hsA
        rw [← HT1.out] at hsA
        have HSA := Lib.hid hsA
        have HLL := Lib.hid hll
        have HBA := Lib.hid (HS5.out.belowAt HB5.out 0 rfl (hkA.mono (fun q _ hq => Or.inl hq)))
        clear hsA hkA hll
        go_roundw
        case rel => exact ⟨k + 1, _, _, _, by omega, by go_num, by rw [← HLL.out], HSA.out, HBA.out⟩
        case measure => simp [intOf]; omega
      · have hTk := HTk.out
        rw [if_neg hfr] at hTk
        have hdf : decide (fr ≤ id) = false := decide_eq_false hfr
        have HT1 := Lib.hid hTk
        clear hTk HTk
        go_wp2_with fail
        go_roundw
        case rel => exact ⟨k + 1, vs, ao, c, by omega, by go_num, by rw [HT1.out], by rw [HT1.out]; exact HSk.out, HBk.out⟩
        case measure => simp [intOf]; omega
    · have hkl : k = ks.length := by omega
      have HS9 : Hid (Sep w1.heap.size wr [obVts (.slice ao (votL A.l (ks.take k) fr).length c) 80 vs (votL A.l (ks.take k) fr)]) := Lib.hid (HSk.out.sub (List.sublist_append_left [_] _))
      rw [hkl, List.take_length] at HS9 ⊢
      have hkd : decide ((k : Int) < (ks.length : Int)) = false := decide_eq_false (by omega)
      have HKl := Lib.hid hkl
      clear hkl
      go_wp2_with fail
      refine bodyPost_ret (v := .tuple #[.slice ao (votL A.l ks fr).length c, .int .i64 0]) (by simp [results, Tryz.results43, go_sem]) rfl ?_
      refine ⟨ks, ao, c, vs, HIs.out, rfl, ⟨HS9.out.good, HS9.out.inv, fun o ho k hk => Nat.le_trans hsz (HS9.out.base o ho k hk), HS9.out.apart, Nat.le_trans hsz HS9.out.size⟩, H1.out.below HBk.out (Nat.le_refl _), HK1.out.trans (Below.keep0 _ HBk.out)⟩
end Go.Proofs.YtgmdedkingampaaGreat

namespace Go.Proofs.YtgmdedkingampaaGreat
open Go.ChangeShapes Go.WideShapes Go.ChangeAt Go.RowKit Go.Maps
set_option maxRecDepth 100000
set_option linter.unusedVariables false
set_option linter.unusedSimpArgs false

theorem AccO.keep {p : Value} {S D : Nat → Prop} {w w' : World} {N : Nat} {A : AS} (h : AccO p D w N A) (hk : Keep S w w') (hS : ∀ k, S k → ¬ D k) : AccO p D w' N A := by
  obtain ⟨⟨b0, bm, n, h1, h2, h3⟩, h4⟩ := h
  exact ⟨⟨b0, bm, n, h1, h2.keep hk hS, h3⟩, h4⟩
theorem AccO.prepOld {p : Value} {D : Nat → Prop} {w : World} {N : Nat} {A : AS} (h : AccO p D w N A) {x fr : Int} (hx : x < A.promised) : Calls Tryz.prog 43 #[p, .int .u64 x, .int .u64 fr] w fun e w' => e = .returned (.tuple #[.slice none 0 0, .int .i64 32]) ∧ w = w' := by
  obtain ⟨⟨b0, bm, n, rfl, h2, h3⟩, h4⟩ := h; exact prepare_old h2 hx
theorem AccO.prepOk {p : Value} {D : Nat → Prop} {w : World} {N : Nat} {A : AS} (h : AccO p D w N A) {x fr : Int} (hx : A.promised ≤ x) (hu : U1 x) (hN : N < 1000000) : Calls Tryz.prog 43 #[p, .int .u64 x, .int .u64 fr] w fun e w' =>
    ∃ ks ao c vs, IsKeys A.l ks ∧ e = .returned (.tuple #[.slice ao (votL A.l ks fr).length c, .int .i64 0]) ∧
    Sep w.heap.size w' [obVts (.slice ao (votL A.l ks fr).length c) 80 vs (votL A.l ks fr)] ∧ AccO p D w' N ⟨x, A.low, A.l⟩ ∧ Keep D w w' := by
  obtain ⟨⟨b0, bm, n, rfl, h2, h3⟩, K, h4, h5⟩ := h
  refine (prepare_ok h2 hx hu (by omega) (by omega) h5).mono ?_
  rintro e w' ⟨ks, ao, c, vs, g1, g2, g3, g4, g5⟩
  exact ⟨ks, ao, c, vs, g1, g2, g3, ⟨⟨b0, bm, n, rfl, g4, h3⟩, K, h4, h5⟩, g5.mono (fun k _ e => by subst e; exact h2.d0)⟩
def obAcc (p : Value) (D : Nat → Prop) (N : Nat) (A : AS) : Ob := ⟨D, fun w => AccO p D w N A⟩
theorem obAcc_good (p : Value) (D : Nat → Prop) (N : Nat) (A : AS) : (obAcc p D N A).Good := ⟨fun h hk hs => h.keep hk hs, fun h k hk => h.lt k hk⟩
section
variable {W w w' : World} {os : List Ob}
variable {p : Value} {D : Nat → Prop} {N : Nat} {A : AS}
theorem SepW.accNew (h : SepW W w os) : Calls Tryz.prog 62 #[] w fun e w' => ∃ b0 D, e = .returned (.pointer (some ⟨b0, 0, none⟩)) ∧ SepW W w' (obAcc (.pointer (some ⟨b0, 0, none⟩)) D 0 emptyAS :: os) :=
  (anew_o w).mono fun e w' ⟨b0, D, h1, h2, h3, h4⟩ => ⟨b0, D, h1, h.new h4 (obAcc_good ..) h2 h3⟩
theorem SepW.accept (h : SepW W w os) (i : Nat) (hi : os[i]? = some (obAcc p D N A)) {sv : Value} {v : Vt} (hs : SlR w sv (u8s v.val)) (us : U1 v.slot) (ub : U1 v.ballot) (ux : U8 v.val) (lx : v.val.length ≤ 1000000) (hN : N < 1000000) :
    Calls Tryz.prog 93 #[p, .agg #[.int .u64 v.slot, .int .u64 v.ballot, sv]] w fun e w' => e = .returned (.int .i64 (accE A v)) ∧ ∃ D', SepW W w' (os.set i (obAcc p D' (N + 1) (accR A v))) :=
  (AccO.accept (h.get i hi : AccO p D w N A) hs us ub ux lx hN).mono fun e w' ⟨h1, D', h2, h3⟩ => ⟨h1, D', h.set i hi h3.keep (obAcc_good ..) h2 h3.new⟩
theorem SepW.accPromised (h : SepW W w os) (i : Nat) (hi : os[i]? = some (obAcc p D N A)) : Calls Tryz.prog 42 #[p] w fun e w' => e = .returned (.int .u64 A.promised) ∧ w = w' := AccO.promised (h.get i hi : AccO p D w N A)
theorem SepW.accLow (h : SepW W w os) (i : Nat) (hi : os[i]? = some (obAcc p D N A)) : Calls Tryz.prog 89 #[p] w fun e w' => e = .returned (.int .u64 A.low) ∧ w = w' := AccO.low (h.get i hi : AccO p D w N A)
theorem SepW.voted (h : SepW W w os) (i : Nat) (hi : os[i]? = some (obAcc p D N A)) {slot : Int} (us : U1 slot) : Calls Tryz.prog 92 #[p, .int .u64 slot] w (RetVd w (vOr A slot) (A.l slot).isSome) := AccO.voted (h.get i hi : AccO p D w N A) us
theorem SepW.prepOld (h : SepW W w os) (i : Nat) (hi : os[i]? = some (obAcc p D N A)) {x fr : Int} (hx : x < A.promised) : Calls Tryz.prog 43 #[p, .int .u64 x, .int .u64 fr] w fun e w' => e = .returned (.tuple #[.slice none 0 0, .int .i64 32]) ∧ w = w' := AccO.prepOld (h.get i hi : AccO p D w N A) hx
theorem SepW.prepOk (h : SepW W w os) (i : Nat) (hi : os[i]? = some (obAcc p D N A)) {x fr : Int} (hx : A.promised ≤ x) (hu : U1 x) (hN : N < 1000000) : Calls Tryz.prog 43 #[p, .int .u64 x, .int .u64 fr] w fun e w' =>
    ∃ ks ao c vs, IsKeys A.l ks ∧ e = .returned (.tuple #[.slice ao (votL A.l ks fr).length c, .int .i64 0]) ∧ SepW W w' (obVts (.slice ao (votL A.l ks fr).length c) 80 vs (votL A.l ks fr) :: os.set i (obAcc p D N ⟨x, A.low, A.l⟩)) :=
  (AccO.prepOk (h.get i hi : AccO p D w N A) hx hu hN).mono fun e w' ⟨ks, ao, c, vs, h1, h2, h3, h4, h5⟩ => ⟨ks, ao, c, vs, h1, h2, h.setNew i hi h5 (obAcc_good ..) h4 (fun k hk => hk) h3⟩
end
/-- Where only small slots are voted for: the votes by their slots. -/
theorem votL_range {l : Int → Option Vt} {ks : List Int} {fr : Int} {M : Nat} (h : IsKeys l ks) (hM : ∀ x, (l x).isSome = true → 0 ≤ x ∧ x < M) :
    votL l ks fr = ((List.range M).filter (fun (k : Nat) => (l (k : Int)).isSome && decide (fr ≤ (k : Int)))).map (fun (k : Nat) => (l (k : Int)).getD ⟨0, 0, []⟩) := by
  have e : ks = ((List.range M).filter (fun (k : Nat) => (l (k : Int)).isSome)).map (fun (k : Nat) => (k : Int)) := by
    refine rise_unique h.1 ?_ (fun x => ?_)
    · rw [List.pairwise_map]
      exact (List.Pairwise.filter _ (List.pairwise_lt_range (n := M))).imp (fun h => by omega)
    · rw [h.2 x, List.mem_map]
      constructor
      · intro hx
        obtain ⟨h0, h1⟩ := hM x hx
        exact ⟨x.toNat, List.mem_filter.2 ⟨List.mem_range.2 (by omega), by rw [show ((x.toNat : Nat) : Int) = x by omega]; exact hx⟩, by omega⟩
      · rintro ⟨k, hk, rfl⟩
        exact (List.mem_filter.1 hk).2
  rw [e]
  unfold votL
  rw [List.filter_map, List.filter_filter, List.filterMap_map]
  generalize List.range M = r
  induction r with
  | nil => rfl
  | cons k r ih =>
    simp only [List.filter_cons, Function.comp]
    by_cases hl : (l (k : Int)).isSome = true
    · by_cases hf : fr ≤ (k : Int)
      · obtain ⟨v, hv⟩ := Option.isSome_iff_exists.1 hl
        simp [hv, hf]
        simpa [Function.comp] using ih
      · simp [hf]
        simpa [Function.comp] using ih
    · simp [hl]
      simpa [Function.comp] using ih
end Go.Proofs.YtgmdedkingampaaGreat
