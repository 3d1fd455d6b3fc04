/-
  Package leader: rising, Open.
-/
import Derived.Test.YtjdjfhioobhcjaaLea9
namespace Go.Proofs.Ytjdjfhioobhcjaa
open Go.ChangeShapes Go.WideShapes Go.ChangeAt Go.RowKit Go.Maps Go.Shelf
set_option maxRecDepth 100000

/-- What 'rising' comes to. -/
def RetRi (l : Int → Option (Vt × (Nat → Bool))) (w : World) (e : Ending) (w' : World) : Prop := ∃ ks ao c vs, IsOKeys l ks ∧ e = .returned (.slice ao (opL l ks).length c) ∧ SepW w w' [obVts (.slice ao (opL l ks).length c) 39 vs (opL l ks)]
set_option maxHeartbeats 4000000 in
theorem rising_any {D : Nat → Prop} {w : World} {b0 bl N : Nat} {ko : Option Nat} {A : LS} (h : LeaR w D b0 ko (some bl) N A) (hN : N ≤ 1000000) {K : List Int} (hK : K.length < 1000000) (hKs : ∀ a, (A.op a).isSome = true → a ∈ K) :
    Calls Try.prog 62 #[.map (some bl), .func (.func 63) #[] #[]] w (RetRi A.op w) := by
  obtain ⟨i0, hi, hz0, hz1, hz2⟩ := info_parts Try.voteInfo
  have H := Lib.hid h
  have HKs := Lib.hid hKs
  have hb1 := LR_lt h bl (Or.inr (Or.inr rfl))
  clear h hKs
  go_enter Try.func62, Try.ntmps62
  go_wp2_with fail
  refine (keysO_any (some bl) w).mono ?_
  rintro e w2 ⟨rfl, rfl⟩
  have hA := (Below.refl w.heap.size w).alloc (Nat.le_refl _) (.cells #[.map (some bl)] 114)
  have HA := Lib.hid hA
  have hRA := H.out.below hA (Nat.le_refl _)
  obtain ⟨f, hf, hks, hall⟩ := IsOKeys.of hRA
  obtain ⟨N', hN', hseq⟩ := keysO_stops Fence.wide 1 trivial rfl (Nat.le_refl _) w.heap.size bl N (w.alloc (.cells #[.map (some bl)] 114)) (by simp) (World.news_of_block (heap_alloc_new w _) 0 _ rfl) hf
  have HSo := Lib.hid (sortedU_any 93 #[.pointer (some ⟨w.heap.size, 0, none⟩)] (enters_of Try.func93 (by kernel_rfl) rfl) (AllKeys f) N' (by omega)
    (fun ss hs => Nat.lt_of_le_of_lt (nodup_le hs.1 (fun a ha => HKs.out a (hall ss hs a ha))) hK) _ hseq)
  have HKy := Lib.hid hks
  clear hA hRA hf hks hall hseq
  go_wp2_with fail
  refine HSo.out.mono ?_
  rintro e w2 ⟨v, ss, rfl, hS, hown2, hb2⟩
  have hisk := HKy.out _ hS.sorted
  have hlen : ss.length = (ss.mergeSort (fun x y => decide (x ≤ y))).length := by simp
  rw [hlen] at hown2
  generalize ss.mergeSort (fun x y => decide (x ≤ y)) = ks at *
  have hk50 : ks.length < 1000000 := Nat.lt_of_le_of_lt (nodup_le (hisk.1.imp (fun h => by omega)) (fun a ha => HKs.out a ((hisk.2 a).1 ha))) hK
  obtain ⟨ko, kc, hve, _, _⟩ := own_form hown2
  subst hve
  have hbw := HA.out.trans (hb2.mono (by simp))
  have HB2 := Lib.hid hbw
  have hsep : Sep w.heap.size w2 [obVts (.slice none 0 0) 39 [] [], obRow (.slice ko ks.length kc) 29 1 ks.length (u64s ks)] := by
      refine ⟨fun o ho => ?_, fun o ho => ?_, fun o ho k hk => ?_, ?_, hbw.size⟩
      · simp at ho; rcases ho with rfl | rfl
        · exact obVts_good ..
        · exact obRow_good ..
      · simp at ho; rcases ho with rfl | rfl
        · exact ⟨World.ownsRow_nil _ _ _ _, VtC.nil _, by intro u hu; cases hu⟩
        · exact hown2.weaken (Nat.zero_le _)
      · simp at ho; rcases ho with rfl | rfl
        · rcases hk with hk | ⟨u, hu, _⟩
          · cases hk
          · cases hu
        · have := (hown2.lt k hk).1; simp at this; omega
      · refine List.Pairwise.cons (fun x hx k hk => ?_) (List.pairwise_singleton _ _)
        rcases hk with hk | ⟨u, hu, _⟩
        · cases hk
        · cases hu
  have HSep := Lib.hid hsep
  have HIs := Lib.hid hisk
  clear hown2 hb2 hbw hsep hisk hS hlen HSo HKy
  go_wp2_with fail
  go_loopw [12, 5, 7] (fun i ov _ wr => ∃ (k : Nat) (vs : List Value) (ao : Option Addr) (c : Nat), k ≤ ks.length ∧ i = .int .i64 k ∧ ov = .slice ao (opL A.op (ks.take k)).length c ∧ Sep w.heap.size wr [obVts (.slice ao (opL A.op (ks.take k)).length c) 39 vs (opL A.op (ks.take k)), obRow (.slice ko ks.length kc) 29 1 ks.length (u64s ks)] ∧ Below w.heap.size w wr) (fun i _ _ _ => ks.length - (intOf i).toNat)
  case atStart => exact ⟨0, [], none, 0, by omega, rfl, rfl, HSep.out, HB2.out⟩
  case round =>
    clear HSep HB2
    obtain ⟨k, vs, ao, c, hk, rfl, rfl, hsep, hbw⟩ := hrel
    have HSk := Lib.hid hsep
    have HBk := Lib.hid hbw
    clear hsep hbw
    by_cases hlt : k < ks.length
    · have hki : (k : Int) < (ks.length : Int) := by omega
      obtain ⟨id, hid⟩ : ∃ id, ks[k]? = some id := ⟨_, List.getElem?_eq_getElem hlt⟩
      obtain ⟨⟨s, g⟩, hsl⟩ := Option.isSome_iff_exists.1 ((HIs.out.2 id).1 (List.mem_of_getElem? hid))
      have hsm := H.out.op.small id (s, g) hsl
      have hkown : World.ownsRow wr 0 29 1 (.slice ko ks.length kc) ks.length (u64s ks) := HSk.out.get 1 rfl
      obtain ⟨ka, kca, hke, _, _, hkx⟩ := SlR.of_own hkown
      simp only [List.length_map] at hke
      cases hke
      obtain ⟨kad, rfl, hkc⟩ := hkx k (.int .u64 id) (by rw [List.getElem?_map, hid]; rfl)
      have HTk := Lib.hid (opL_take hid hsl)
      have hR := H.out.below HBk.out (Nat.le_refl _)
      obtain ⟨lo, lc, _, hlk0, hsl2, hl1, _, _, _, hl2, hl3⟩ := hR.lookO (slot := id) hsm.1
      have hlk := hlk0 wr rfl
      rw [oOr_some hsl] at hlk hsl2 hl1 hl2
      simp only at hlk hsl2 hl1 hl2
      have hvl := opL_le A.op ks k
      have hk40 : (opL A.op (ks.take k)).length ≤ 1099511627776 := by omega
      have HSl2 := Lib.hid hsl2
      clear hkown hkx hR hlk0 hid hsl hvl hsl2
      go_wp2_with fail
      refine (openFn_any _ _ _ _ _ _ _).mono ?_
      rintro e w3 ⟨rfl, hb3⟩
      have HB3 := Lib.hid hb3
      have HS3 := Lib.hid (HSk.out.step hb3)
      have HCl := Lib.hid (lcopied_any (HSl2.out.below hb3 (Nat.le_refl _)) (by omega : s.val.length ≤ 1000000000))
      clear hb3
      go_wp2_with fail
      refine HCl.out.mono ?_
      rintro e w4 ⟨co, cc, rfl, hown4, hb4⟩
      have hs5 := HS3.out.new hb4 (obRow_good (.slice co s.val.length cc) 5 1 s.val.length (u8s s.val)) (hown4.weaken (Nat.zero_le _)) (fun q hq => (hown4.lt q hq).1)
      have HS5 := Lib.hid (hs5.front 1 rfl)
      have HB5 := Lib.hid ((HBk.out.trans (HB3.out.mono HBk.out.size)).trans (hb4.mono (Nat.le_trans HBk.out.size HB3.out.size)))
      have HO5 := Lib.hid ((HS5.out.get 0 rfl : (obVts (.slice ao (opL A.op (ks.take k)).length c) 39 vs (opL A.op (ks.take k))).inv _).1)
      have HU4 : Hid (∀ u ∈ (#[.int .u64 s.slot, .int .u64 s.ballot, .slice co s.val.length cc] : Array Value).toList, u.oneCell' = true) := Lib.hid (by intro u hu; simp at hu; rcases hu with rfl | rfl | rfl <;> rfl)
      clear hown4 hb4 hs5 HCl
      go_wp2_with (first
        | (at_builtin; (refine wpList_appS rfl (.tmp 16) (.tmp 23) 33 rfl 0 39 i0 _ 3 40 Try.underlying33 hi hz0 hz1 hz2 rfl (by decide) (by decide) rfl rfl (by simp) rfl HO5.out HU4.out hk40 (Nat.zero_le _) ?_)
           intro g7 cap7 w7 hown7 hg7 hor7
           have HOwn7 := Lib.hid hown7
           have HG7 := Lib.hid hg7
           have HOr7 := Lib.hid hor7
           clear hown7 hg7 hor7)
        | fail)
      obtain ⟨hsA, hkA⟩ := HS5.out.vtApp (g := g7) (cap := cap7) (s := s) HG7.out HOr7.out HOwn7.out
      have hll : (opL A.op (ks.take k)).length + 1 = (opL A.op (ks.take (k + 1))).length := by rw [HTk.out]; simp
      rw [hll] at hsA
      rw [← HTk.out] at hsA
      have HSA := Lib.hid hsA
      have HLL := Lib.hid hll
      have HBA := Lib.hid (HS5.out.belowAt HB5.out 0 rfl (hkA.mono (fun q _ hq => Or.inl hq)))
      clear hsA hkA hll
      go_roundw
      case rel => exact ⟨k + 1, _, _, _, by omega, by go_num, by rw [← HLL.out], HSA.out, HBA.out⟩
      case measure => simp [intOf]; omega
    · have hkl : k = ks.length := by omega
      have HS9 : Hid (Sep w.heap.size wr [obVts (.slice ao (opL A.op (ks.take k)).length c) 39 vs (opL A.op (ks.take k))]) := Lib.hid (HSk.out.sub (List.sublist_append_left [_] _))
      rw [hkl, List.take_length] at HS9 ⊢
      have hkd : decide ((k : Int) < (ks.length : Int)) = false := decide_eq_false (by omega)
      have HKl := Lib.hid hkl
      clear hkl
      go_wp2_with fail
      go_ret
      exact ⟨ks, ao, c, vs, HIs.out, rfl, ⟨HS9.out, HBk.out⟩⟩
theorem lopen_any {D : Nat → Prop} {w : World} {b0 bl N : Nat} {ko : Option Nat} {A : LS} (h : LeaR w D b0 ko (some bl) N A) (hN : N ≤ 1000000) {K : List Int} (hK : K.length < 1000000) (hKs : ∀ a, (A.op a).isSome = true → a ∈ K) :
    Calls Try.prog 45 #[.pointer (some ⟨b0, 0, none⟩)] w (RetRi A.op w) := by
  have HR := Lib.hid (rising_any h hN hK hKs)
  obtain ⟨⟨c0, c1, c2, c3, c4, c5, c6, c7⟩, _⟩ := h.cell
  clear h hKs
  go_enter Try.func45, Try.ntmps45
  go_wp2_with fail
  refine HR.out.mono ?_
  rintro e w1 ⟨ks, ao, c, vs, h1, rfl, h2⟩
  go_wp2_with fail
  go_ret
  exact ⟨ks, ao, c, vs, h1, rfl, h2⟩
end Go.Proofs.Ytjdjfhioobhcjaa
