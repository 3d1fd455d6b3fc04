/-
  Package acceptor: Prepare.
-/
import Derived.Test.YtjdjfhioobhcjaaAcc5
import Derived.Test.YtjdjfhioobhcjaaKeyV
import Derived.Test.YtjdjfhioobhcjaaKeyU
namespace Go.Proofs.Ytjdjfhioobhcjaa
open Go.ChangeShapes Go.WideShapes Go.ChangeAt Go.RowKit Go.Maps Go.Shelf
set_option maxRecDepth 100000

/-- The slots voted for, rising. -/
def IsKeys (l : Int → Option Vt) (ks : List Int) : Prop := ks.Pairwise (· < ·) ∧ ∀ x, x ∈ ks ↔ (l x).isSome = true
/-- The votes from a slot on. -/
def votL (l : Int → Option Vt) (ks : List Int) (fr : Int) : List Vt := (ks.filter (fun x => decide (fr ≤ x))).filterMap l
theorem votL_take {l : Int → Option Vt} {ks : List Int} {fr : Int} {k : Nat} {x : Int} {v : Vt} (hk : ks[k]? = some x) (hv : l x = some v) : votL l (ks.take (k + 1)) fr = if fr ≤ x then votL l (ks.take k) fr ++ [v] else votL l (ks.take k) fr := by
  obtain ⟨h1, h2⟩ := List.getElem?_eq_some_iff.1 hk
  unfold votL
  rw [List.take_succ_eq_append_getElem h1, h2, List.filter_append, List.filterMap_append]
  by_cases e : fr ≤ x
  · rw [if_pos e]; simp [e, hv]
  · rw [if_neg e]; simp [e]
theorem votL_le (l : Int → Option Vt) (ks : List Int) (fr : Int) (k : Nat) : (votL l (ks.take k) fr).length ≤ k := by
  unfold votL
  have h1 := List.length_filterMap_le l ((ks.take k).filter (fun x => decide (fr ≤ x)))
  have h2 := List.length_filter_le (fun x => decide (fr ≤ x)) (ks.take k)
  have h3 := List.length_take_le k ks
  omega
theorem IsKeys.of {w : World} {D : Nat → Prop} {b0 bm N : Nat} {A : AS} (h : AccR w D b0 bm N A) : ∃ f, MapR w Try.prog 29 bm N f ∧ (∀ ks, SortedKeys f ks → IsKeys A.l ks) ∧ ∀ ss, AllKeys f ss → ∀ x ∈ ss, (A.l x).isSome = true := by
  obtain ⟨f, hf, hv, hx⟩ := h.map.vals
  have key : ∀ x : Int, (f (.int .u64 x)).isSome = true ↔ (A.l x).isSome = true := by
    intro x
    constructor
    · intro hs
      obtain ⟨a, ha, e⟩ := hx _ hs
      cases e
      have := hv x ha
      cases hl : A.l x with
      | none => rw [hl] at this; have h0 : f (.int .u64 x) = none := this; rw [h0] at hs; cases hs
      | some v => rfl
    · intro hs
      obtain ⟨v, hl⟩ := Option.isSome_iff_exists.1 hs
      have := hv x (h.map.small x v hl).1
      rw [hl] at this
      obtain ⟨sv, e, _⟩ := this
      rw [e]; rfl
  exact ⟨f, hf, fun ks hk => ⟨hk.1, fun x => (hk.2 x).trans (key x)⟩, fun ss hs x hx => (key x).1 ((hs.2 x).1 hx)⟩
set_option maxHeartbeats 1000000 in
theorem prepare_old {D : Nat → Prop} {w : World} {b0 bm N : Nat} {A : AS} (h : AccR w D b0 bm N A) {x fr : Int} (hx : x < A.promised) : Calls Try.prog 17 #[.pointer (some ⟨b0, 0, none⟩), .int .u64 x, .int .u64 fr] w fun e w' => e = .returned (.tuple #[.slice none 0 0, .int .i64 32]) ∧ w = w' := by
  have H := Lib.hid h
  clear h
  go_enter Try.func17, Try.ntmps17
  go_wp2_with fail
  refine (promise_old H.out hx).mono ?_
  rintro e w' ⟨rfl, rfl⟩
  go_wp2_with fail
  refine bodyPost_ret (v := .tuple #[.slice none 0 0, .int .i64 32]) (by simp [results, Try.results17, go_sem]) rfl ?_
  exact ⟨rfl, rfl⟩
/-- Votes, each with memory of its own; the acceptor behind it. -/
def RetPr (D : Nat → Prop) (b0 bm N : Nat) (A : AS) (x fr : Int) (w : World) (e : Ending) (w' : World) : Prop := ∃ ks ao c vs, IsKeys A.l ks ∧ e = .returned (.tuple #[.slice ao (votL A.l ks fr).length c, .int .i64 0]) ∧
  Sep w.heap.size w' [obVts (.slice ao (votL A.l ks fr).length c) 39 vs (votL A.l ks fr)] ∧ AccR w' D b0 bm N ⟨x, A.low, A.l⟩ ∧ Keep (fun k => k = b0) w w'
set_option maxHeartbeats 4000000 in
theorem prepare_ok {D : Nat → Prop} {w : World} {b0 bm N : Nat} {A : AS} (h : AccR w D b0 bm N A) {x fr : Int} (hx : A.promised ≤ x) (hu : U1 x) (hN : N ≤ 1000000) {K : List Int} (hK : K.length < 1000000) (hKs : ∀ a, (A.l a).isSome = true → a ∈ K) :
    Calls Try.prog 17 #[.pointer (some ⟨b0, 0, none⟩), .int .u64 x, .int .u64 fr] w (RetPr D b0 bm N A x fr w) := by
  have HP := Lib.hid (promise_ok h hx hu)
  have hb0 := h.lt _ h.d0
  obtain ⟨i0, hi, hz0, hz1, hz2⟩ := info_parts Try.voteInfo
  have HKs := Lib.hid hKs
  clear h hx hKs
  go_enter Try.func17, Try.ntmps17
  go_wp2_with fail
  refine HP.out.mono ?_
  rintro e w1 ⟨rfl, h1, hk1⟩
  have H1 := Lib.hid h1
  have HK1 := Lib.hid hk1
  have c2 := h1.cell.2.2.1
  have hb1 := h1.lt _ h1.d0
  have hsz := hk1.size
  clear h1 hk1 HP
  go_wp2_with fail
  refine (keysV_any (some bm) w1).mono ?_
  rintro e w2 ⟨rfl, rfl⟩
  have hA := (Below.refl w1.heap.size w1).alloc (Nat.le_refl _) (.cells #[.map (some bm)] 105)
  have HA := Lib.hid hA
  have hRA := H1.out.below hA (Nat.le_refl _)
  obtain ⟨f, hf, hks, hall⟩ := IsKeys.of hRA
  obtain ⟨N', hN', hseq⟩ := keysV_stops Fence.wide 1 trivial rfl (Nat.le_refl _) w1.heap.size bm N (w1.alloc (.cells #[.map (some bm)] 105)) (by simp) (World.news_of_block (heap_alloc_new w1 _) 0 _ rfl) hf
  have HSo := Lib.hid (sortedU_any 80 #[.pointer (some ⟨w1.heap.size, 0, none⟩)] (enters_of Try.func80 (by kernel_rfl) rfl) (AllKeys f) N' (by omega)
    (fun ss hs => Nat.lt_of_le_of_lt (nodup_le hs.1 (fun a ha => HKs.out a (hall ss hs a ha))) hK) _ hseq)
  have HKy := Lib.hid hks
  clear hA hRA hf hks hall hseq
  go_wp2_with fail
  refine HSo.out.mono ?_
  rintro e w2 ⟨v, ss, rfl, hS, hown2, hb2⟩
  have hisk := HKy.out _ hS.sorted
  have hlen : ss.length = (ss.mergeSort (fun x y => decide (x ≤ y))).length := by simp
  rw [hlen] at hown2
  generalize ss.mergeSort (fun x y => decide (x ≤ y)) = ks at *
  have hk50 : ks.length < 1000000 := Nat.lt_of_le_of_lt (nodup_le (hisk.1.imp (fun h => by omega)) (fun a ha => HKs.out a ((hisk.2 a).1 ha))) hK
  obtain ⟨ko, kc, hve, _, _⟩ := own_form hown2
  subst hve
  have hbw := HA.out.trans (hb2.mono (by simp))
  have HB2 := Lib.hid hbw
  have hsep : Sep w1.heap.size w2 [obVts (.slice none 0 0) 39 [] [], obRow (.slice ko ks.length kc) 29 1 ks.length (u64s ks)] := by
      refine ⟨fun o ho => ?_, fun o ho => ?_, fun o ho k hk => ?_, ?_, hbw.size⟩
      · simp at ho; rcases ho with rfl | rfl
        · exact obVts_good ..
        · exact obRow_good ..
      · simp at ho; rcases ho with rfl | rfl
        · exact ⟨World.ownsRow_nil _ _ _ _, VtC.nil _, by intro u hu; cases hu⟩
        · exact hown2.weaken (Nat.zero_le _)
      · simp at ho; rcases ho with rfl | rfl
        · rcases hk with hk | ⟨u, hu, _⟩
          · cases hk
          · cases hu
        · have := (hown2.lt k hk).1; simp at this; omega
      · refine List.Pairwise.cons (fun x hx k hk => ?_) (List.pairwise_singleton _ _)
        rcases hk with hk | ⟨u, hu, _⟩
        · cases hk
        · cases hu
  have HSep := Lib.hid hsep
  have HIs := Lib.hid hisk
  clear hown2 hb2 hbw hsep hisk hS hlen HSo HKy
  go_wp2_with fail
  go_loopw [27, 9, 11] (fun i ov _ wr => ∃ (k : Nat) (vs : List Value) (ao : Option Addr) (c : Nat), k ≤ ks.length ∧ i = .int .i64 k ∧ ov = .slice ao (votL A.l (ks.take k) fr).length c ∧ Sep w1.heap.size wr [obVts (.slice ao (votL A.l (ks.take k) fr).length c) 39 vs (votL A.l (ks.take k) fr), obRow (.slice ko ks.length kc) 29 1 ks.length (u64s ks)] ∧ Below w1.heap.size w1 wr) (fun i _ _ _ => ks.length - (intOf i).toNat)
  case atStart => exact ⟨0, [], none, 0, by omega, rfl, rfl, HSep.out, HB2.out⟩
  case round =>
    clear HSep HB2
    obtain ⟨k, vs, ao, c, hk, rfl, rfl, hsep, hbw⟩ := hrel
    have HSk := Lib.hid hsep
    have HBk := Lib.hid hbw
    clear hsep hbw
    by_cases hlt : k < ks.length
    · have hki : (k : Int) < (ks.length : Int) := by omega
      obtain ⟨id, hid⟩ : ∃ id, ks[k]? = some id := ⟨_, List.getElem?_eq_getElem hlt⟩
      obtain ⟨s, hsl⟩ := Option.isSome_iff_exists.1 ((HIs.out.2 id).1 (List.mem_of_getElem? hid))
      have hsm := H1.out.map.small id s hsl
      have hkown : World.ownsRow wr 0 29 1 (.slice ko ks.length kc) ks.length (u64s ks) := HSk.out.get 1 rfl
      obtain ⟨ka, kca, hke, _, _, hkx⟩ := SlR.of_own hkown
      simp only [List.length_map] at hke
      cases hke
      obtain ⟨kad, rfl, hkc⟩ := hkx k (.int .u64 id) (by rw [List.getElem?_map, hid]; rfl)
      have HTk := Lib.hid (votL_take (fr := fr) hid hsl)
      have hR := H1.out.below HBk.out (Nat.le_refl _)
      obtain ⟨lo, lc, _, hlk0, hsl2, hl1, hl2, hl3⟩ := hR.look (slot := id) hsm.1
      have hlk := hlk0 wr rfl
      rw [vOr_some (A := ⟨x, A.low, A.l⟩) hsl] at hlk hsl2 hl1 hl2
      have d2 := (HBk.out.cell (p := ⟨b0, 2, none⟩) hb1).trans c2
      have HCl := Lib.hid (copied_any hsl2 (by omega : s.val.length ≤ 1000000000))
      have hvl := votL_le A.l ks fr k
      have HVl := Lib.hid hvl
      have hk40 : (votL A.l (ks.take k) fr).length ≤ 1099511627776 := by omega
      clear hkown hkx hR hlk0 hsl2 hid hsl hvl
      by_cases hfr : fr ≤ id
      · have hTk := HTk.out
        rw [if_pos hfr] at hTk
        have HT1 := Lib.hid hTk
        clear hTk HTk
        go_wp2_with fail
        refine HCl.out.mono ?_
        rintro e w4 ⟨co, cc, rfl, hown4, hb4⟩
        have hs5 := HSk.out.new hb4 (obRow_good (.slice co s.val.length cc) 5 1 s.val.length (u8s s.val)) (hown4.weaken (Nat.zero_le _)) (fun q hq => (hown4.lt q hq).1)
        have HS5 := Lib.hid (hs5.front 1 rfl)
        have HB5 := Lib.hid (HBk.out.trans (hb4.mono HBk.out.size))
        have HO5 := Lib.hid ((HS5.out.get 0 rfl : (obVts (.slice ao (votL A.l (ks.take k) fr).length c) 39 vs (votL A.l (ks.take k) fr)).inv _).1)
        have HU4 : Hid (∀ u ∈ (#[.int .u64 s.slot, .int .u64 s.ballot, .slice co s.val.length cc] : Array Value).toList, u.oneCell' = true) := Lib.hid (by intro u hu; simp at hu; rcases hu with rfl | rfl | rfl <;> rfl)
        clear hown4 hb4 hs5 HCl
        go_wp2_with (first
          | (at_builtin; (refine wpList_appS rfl (.tmp 34) (.tmp 42) 33 rfl 0 39 i0 _ 3 40 Try.underlying33 hi hz0 hz1 hz2 rfl (by decide) (by decide) rfl rfl (by simp) rfl HO5.out HU4.out hk40 (Nat.zero_le _) ?_)
             intro g7 cap7 w7 hown7 hg7 hor7
             have HOwn7 := Lib.hid hown7
             have HG7 := Lib.hid hg7
             have HOr7 := Lib.hid hor7
             clear hown7 hg7 hor7)
          | fail)
        obtain ⟨hsA, hkA⟩ := HS5.out.vtApp (g := g7) (cap := cap7) (s := s) HG7.out HOr7.out HOwn7.out
        have hll : (votL A.l (ks.take k) fr).length + 1 = (votL A.l (ks.take (k + 1)) fr).length := by rw [HT1.out]; simp
        rw [hll] at hsA
        rw [← HT1.out] at hsA
        have HSA := Lib.hid hsA
        have HLL := Lib.hid hll
        have HBA := Lib.hid (HS5.out.belowAt HB5.out 0 rfl (hkA.mono (fun q _ hq => Or.inl hq)))
        clear hsA hkA hll
        go_roundw
        case rel => exact ⟨k + 1, _, _, _, by omega, by go_num, by rw [← HLL.out], HSA.out, HBA.out⟩
        case measure => simp [intOf]; omega
      · have hTk := HTk.out
        rw [if_neg hfr] at hTk
        have hdf : decide (fr ≤ id) = false := decide_eq_false hfr
        have HT1 := Lib.hid hTk
        clear hTk HTk
        go_wp2_with fail
        go_roundw
        case rel => exact ⟨k + 1, vs, ao, c, by omega, by go_num, by rw [HT1.out], by rw [HT1.out]; exact HSk.out, HBk.out⟩
        case measure => simp [intOf]; omega
    · have hkl : k = ks.length := by omega
      have HS9 : Hid (Sep w1.heap.size wr [obVts (.slice ao (votL A.l (ks.take k) fr).length c) 39 vs (votL A.l (ks.take k) fr)]) := Lib.hid (HSk.out.sub (List.sublist_append_left [_] _))
      rw [hkl, List.take_length] at HS9 ⊢
      have hkd : decide ((k : Int) < (ks.length : Int)) = false := decide_eq_false (by omega)
      have HKl := Lib.hid hkl
      clear hkl
      go_wp2_with fail
      refine bodyPost_ret (v := .tuple #[.slice ao (votL A.l ks fr).length c, .int .i64 0]) (by simp [results, Try.results17, go_sem]) rfl ?_
      refine ⟨ks, ao, c, vs, HIs.out, rfl, ⟨HS9.out.good, HS9.out.inv, fun o ho k hk => Nat.le_trans hsz (HS9.out.base o ho k hk), HS9.out.apart, Nat.le_trans hsz HS9.out.size⟩, H1.out.below HBk.out (Nat.le_refl _), HK1.out.trans (Below.keep0 _ HBk.out)⟩
end Go.Proofs.Ytjdjfhioobhcjaa
