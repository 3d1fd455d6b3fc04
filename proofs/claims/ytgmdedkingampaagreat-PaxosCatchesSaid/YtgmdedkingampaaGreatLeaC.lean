/-
  Package leader: Accepted, where the slot is open.
-/
import Derived.Test.YtgmdedkingampaaGreatKeyB
import Derived.Test.YtgmdedkingampaaGreatLea8
set_option linter.unusedVariables false
set_option linter.unusedSimpArgs false
namespace Go.Proofs.YtgmdedkingampaaGreat
open Go.RowKit Go.Shelf Go.Maps

attribute [local go_sem] Oper.semAt_some

set_option maxRecDepth 100000 in
set_option maxHeartbeats 1000000 in
theorem keysO1_in (F : Fence) (n : Nat) (hf : F.fn 130) (hro : F.round = none) (hn : 1 ≤ n) (l Bm b nn : Nat) (D0 : DataW Value) (J Jx : List Int → World → Prop)
    (hY : ∀ pre x W, J pre W → pre.length < Maps.size D0 → YieldAt F (n - 1) Tryz.prog l #[.int .u64 x] W fun e W' =>
      (e = .returned (.bool true) ∧ J (pre ++ [x]) W' ∧ KeepsWalks W W') ∨ (e = .returned (.bool false) ∧ Jx (pre ++ [x]) W'))
    (W : World) (hJ : AbidesFrom W.heap.size J) (hm : W.cell? ⟨Bm, 0, none⟩ = some (.map (some b))) (hown : W.ownsMap Tryz.prog 39 heldR b nn D0) (h0 : J [] W) :
    CallsIn F n Tryz.prog 130 #[.func (.yield l) #[] #[], .pointer (some ⟨Bm, 0, none⟩)] W fun e W' => (∃ v, e = .returned v) ∧
      ((∃ ss : List Int, (ss.Nodup ∧ ∀ x, x ∈ ss ↔ has D0 (.int .u64 x) = true) ∧ J ss W') ∨ (∃ pre : List Int, True ∧ Jx pre W')) := by
  have kU : Keyed Tryz.prog 39 := int_keyed Tryz.underlying39
  refine callsIn_of_wp Tryz.func130 rfl hf ?_ hro
  simp only [Tryz.ntmps130, List.size_toArray, List.length_cons, List.length_nil, Nat.reduceAdd, Nat.reduceSub, Array.replicate_succ, Array.replicate_zero, List.push_toArray, List.append_toArray, List.nil_append, List.cons_append]
  gi_wp2_with (first
    | (gi_at_range; refine wpListIn_range_own _ rfl _ 124 rfl 39 129 kU Tryz.underlying124 _ b nn _ rfl hown ?_; intro w0 hrg0 hg0 hs0)
    | gi_in)
  go_frame
  gi_loopw [3] (fun _ wr => ∃ (left : Lit → Bool) (cnt : Nat) (ss : List Int), wr.ranges Tryz.prog 39 heldR b W.heap.size nn D0 left cnt ∧ ss.length + cnt ≤ Maps.size D0 ∧ CollU D0 left ss ∧ J ss wr)
    (fun _ wr => wr.rangeLeft b W.heap.size)
  case atStart =>
    exact ⟨_, _, [], hrg0, by simp, CollU.start D0, hJ [] W w0 none h0 hg0 (fun r e => by cases e)⟩
  case round =>
    obtain ⟨left, cnt, ss, hrg, hcs, hC, hJs⟩ := hrel
    gi_wp2_with (first
      | (gi_at_next; refine wpListIn_next_ranges _ rfl _ rfl 39 kU heldR (Value.int .u64) id (fun key kl hk => by obtain ⟨x, hx, _⟩ := Maps.keyOf_int_inv Tryz.underlying39 hk; exact ⟨x, hx⟩) (fun v _ _ => ⟨v, rfl⟩) b W.heap.size nn _ _ _ rfl hrg ?_ ?_)
      | gi_in)
    · intro hc0 hl0
      gi_wp2
      go_end0
      exact ⟨⟨_, rfl⟩, .inl ⟨ss, ⟨hC.1, fun x => by rw [hC.2 x, hl0]; simp⟩, hJs⟩⟩
    · intro x c kl yd yp w2 cnt2 hkey hlk hv hat hrg2 hlt hg2 hs2 hen
      obtain ⟨x', ex, rfl, _⟩ := Maps.keyOf_int_inv Tryz.underlying39 hkey
      obtain rfl : x = x' := by cases ex; rfl
      have hJ2 : J ss w2 := hJ ss wr w2 (some W.heap.size) hJs hg2 (fun r e => by cases e; exact ⟨Nat.le_refl _, hrg.iter_walk⟩)
      obtain ⟨fn, tmps, assign, body, hy, hR⟩ := hY ss x w2 hJ2 (by omega)
      clear hs2
      gi_wp2
      refine hR.mono ?_
      have hC2 := hC.step hlk hat
      rintro e W3 (⟨rfl, hJ3, hk3⟩ | ⟨rfl, hJx3⟩)
      · gi_wp2
        have hrg3 := hrg2.of_walks hk3
        go_roundw
        case rel => exact ⟨_, cnt2, ss ++ [x], hrg3, by simp; omega, hC2, hJ3⟩
        case measure => rw [hrg3.left_eq, hrg.left_eq]; exact hlt
      · gi_wp2
        refine bodyPost_ret (results_none rfl _ _ _) rfl ?_
        exact ⟨⟨_, rfl⟩, .inr ⟨ss ++ [x], trivial, hJx3⟩⟩
theorem keysO_any (mb : Option Nat) (w : World) : Calls Tryz.prog 108 #[.map mb] w fun e w' =>
    e = .returned (.func (.func 130) #[] #[.pointer (some ⟨w.heap.size, 0, none⟩)]) ∧ w' = w.alloc (.cells #[.map mb] 124) := by
  go_enter Tryz.func108, Tryz.ntmps108
  go_wp2
  go_ret
  exact ⟨rfl, rfl⟩
theorem keysO_stops (F : Fence) (n : Nat) (hf : F.fn 130) (hro : F.round = none) (hn : 1 ≤ n) (Bm b nn : Nat) {f : Lit → Option Value} (w : World) (hBm : Bm < w.heap.size) (hm : w.cell? ⟨Bm, 0, none⟩ = some (.map (some b))) (h : MapR w Tryz.prog 39 b nn f) :
    ∃ N, N ≤ nn ∧ SeqStopsK F n Tryz.prog 130 #[.pointer (some ⟨Bm, 0, none⟩)] (fun x : Int => #[Value.int .u64 x]) KeepsWalks (AllKeys f) (fun _ => True) N w := by
  obtain ⟨D, hown, _, hf'⟩ := h
  refine ⟨Maps.size D, hown.size_le, fun l J Jx W hW hJ _ hY h0 => ?_⟩
  have hown' : W.ownsMap Tryz.prog 39 heldR b nn D := by
    have hbl := hown.lt
    obtain ⟨es, clock, hb, Ft, hs, hD⟩ := hown
    exact ⟨es, clock, (hW.block b hbl).trans hb, Ft, hs, hD⟩
  refine (keysO1_in F n hf hro hn l Bm b nn D J Jx hY W hJ ((hW.cell (p := ⟨Bm, 0, none⟩) hBm).trans hm) hown' h0).mono ?_
  rintro e W' ⟨h1, h2⟩
  refine ⟨h1, h2.imp (fun ⟨ss, ⟨a, b⟩, c⟩ => ⟨ss, ⟨a, fun x => by rw [b x, (hf' _).1]⟩, c⟩) (fun ⟨pre, a, c⟩ => ⟨pre, a, c⟩)⟩
end Go.Proofs.YtgmdedkingampaaGreat

namespace Go.Proofs.YtgmdedkingampaaGreat
open Go.ChangeShapes Go.WideShapes Go.ChangeAt Go.RowKit Go.Maps Go.Shelf
set_option maxRecDepth 100000

theorem openFn_any (w : World) (s b n : Int) (ao : Option Addr) (l c : Nat) : Calls Tryz.prog 72 #[.agg #[.int .u64 s, .int .u64 b, .slice ao l c, .int .u32 n]] w fun e w' => e = .returned (.agg #[.int .u64 s, .int .u64 b, .slice ao l c]) ∧ Below w.heap.size w w' := by
  have hb : Below w.heap.size w ((w.alloc (.cells #[.int .u64 s, .int .u64 b, .slice ao l c, .int .u32 n] 129)).alloc (.cells #[.int .u64 s, .int .u64 b, .slice ao l c] 80)) := ((Below.refl _ _).alloc (Nat.le_refl _) _).alloc (by simp) _
  have hk := heap_alloc_new (w.alloc (.cells #[.int .u64 s, .int .u64 b, .slice ao l c, .int .u32 n] 129)) (.cells #[.int .u64 s, .int .u64 b, .slice ao l c] 80)
  rw [show (w.alloc (.cells #[.int .u64 s, .int .u64 b, .slice ao l c, .int .u32 n] 129)).heap.size = w.heap.size + 1 by simp] at hk
  have HK := Lib.hid hk
  have HB := Lib.hid hb
  clear hk hb
  go_enter Tryz.func72, Tryz.ntmps72
  go_wp2
  obtain ⟨W4, HW4⟩ : ∃ x, x = (w.alloc (.cells #[.int .u64 s, .int .u64 b, .slice ao l c, .int .u32 n] 129)).alloc (.cells #[.int .u64 s, .int .u64 b, .slice ao l c] 80) := ⟨_, rfl⟩
  have hk := HK.out
  have hb := HB.out
  rw [← HW4] at hk hb ⊢
  have s0 : W4.cell? ⟨w.heap.size + 1, 0, none⟩ = some (.int .u64 s) := World.news_of_block hk 0 _ rfl
  have s1 : W4.cell? ⟨w.heap.size + 1, 1, none⟩ = some (.int .u64 b) := World.news_of_block hk 1 _ rfl
  have s2 : W4.cell? ⟨w.heap.size + 1, 2, none⟩ = some (.slice ao l c) := World.news_of_block hk 2 _ rfl
  refine bodyPost_ret (v := .agg #[.int .u64 s, .int .u64 b, .slice ao l c]) (by simp [results, Tryz.results72, go_sem, s0, s1, s2]) rfl ?_
  exact ⟨rfl, hb⟩
/-- The slots with proposals, rising. -/
def IsOKeys (l : Int → Option (Vt × (Nat → Bool))) (ks : List Int) : Prop := ks.Pairwise (· < ·) ∧ ∀ x, x ∈ ks ↔ (l x).isSome = true
def opL (l : Int → Option (Vt × (Nat → Bool))) (ks : List Int) : List Vt := ks.filterMap (fun a => (l a).map Prod.fst)
theorem opL_take {l : Int → Option (Vt × (Nat → Bool))} {ks : List Int} {k : Nat} {x : Int} {q : Vt × (Nat → Bool)} (hk : ks[k]? = some x) (hv : l x = some q) : opL l (ks.take (k + 1)) = opL l (ks.take k) ++ [q.1] := by
  obtain ⟨h1, h2⟩ := List.getElem?_eq_some_iff.1 hk
  unfold opL
  rw [List.take_succ_eq_append_getElem h1, h2, List.filterMap_append]
  simp [hv]
theorem opL_le (l : Int → Option (Vt × (Nat → Bool))) (ks : List Int) (k : Nat) : (opL l (ks.take k)).length ≤ k := by
  unfold opL
  have h1 := List.length_filterMap_le (fun a => (l a).map Prod.fst) (ks.take k)
  have h3 := List.length_take_le k ks
  omega
theorem IsOKeys.of {w : World} {D : Nat → Prop} {b0 bl N : Nat} {ko : Option Nat} {A : LS} (h : LeaR w D b0 ko (some bl) N A) : ∃ f, MapR w Tryz.prog 39 bl N f ∧ (∀ ks, SortedKeys f ks → IsOKeys A.op ks) ∧ ∀ ss, AllKeys f ss → ∀ x ∈ ss, (A.op x).isSome = true := by
  obtain ⟨f, hf, hv, hx⟩ := h.op.some_ bl rfl
  have key : ∀ x : Int, (f (.int .u64 x)).isSome = true ↔ (A.op x).isSome = true := by
    intro x
    constructor
    · intro hs
      obtain ⟨a, ha, e⟩ := hx _ hs
      cases e
      have := hv x ha
      cases hl : A.op x with
      | none => rw [hl] at this; have h0 : f (.int .u64 x) = none := this; rw [h0] at hs; cases hs
      | some v => rfl
    · intro hs
      obtain ⟨v, hl⟩ := Option.isSome_iff_exists.1 hs
      have := hv x (h.op.small x v hl).1
      rw [hl] at this
      obtain ⟨v1, v2⟩ := v
      obtain ⟨sv, e, _⟩ := this
      rw [e]; rfl
  exact ⟨f, hf, fun ks hk => ⟨hk.1, fun x => (hk.2 x).trans (key x)⟩, fun ss hs x hx => (key x).1 ((hs.2 x).1 hx)⟩
end Go.Proofs.YtgmdedkingampaaGreat

namespace Go.Proofs.YtgmdedkingampaaGreat
open Go.ChangeShapes Go.WideShapes Go.ChangeAt Go.RowKit Go.Maps Go.Shelf
set_option maxRecDepth 100000

/-- What 'rising' comes to. -/
def RetRi (l : Int → Option (Vt × (Nat → Bool))) (w : World) (e : Ending) (w' : World) : Prop := ∃ ks ao c vs, IsOKeys l ks ∧ e = .returned (.slice ao (opL l ks).length c) ∧ SepW w w' [obVts (.slice ao (opL l ks).length c) 80 vs (opL l ks)]
set_option maxHeartbeats 4000000 in
theorem rising_any {D : Nat → Prop} {w : World} {b0 bl N : Nat} {ko : Option Nat} {A : LS} (h : LeaR w D b0 ko (some bl) N A) (hN : N ≤ 1000000) {K : List Int} (hK : K.length < 1000000) (hKs : ∀ a, (A.op a).isSome = true → a ∈ K) :
    Calls Tryz.prog 71 #[.map (some bl), .func (.func 72) #[] #[]] w (RetRi A.op w) := by
  obtain ⟨i0, hi, hz0, hz1, hz2⟩ := info_parts Tryz.voteInfo
  have H := Lib.hid h
  have HKs := Lib.hid hKs
  have hb1 := LR_lt h bl (Or.inr (Or.inr rfl))
  clear h hKs
  go_enter Tryz.func71, Tryz.ntmps71
  go_wp2_with fail
  refine (keysO_any (some bl) w).mono ?_
  rintro e w2 ⟨rfl, rfl⟩
  have hA := (Below.refl w.heap.size w).alloc (Nat.le_refl _) (.cells #[.map (some bl)] 124)
  have HA := Lib.hid hA
  have hRA := H.out.below hA (Nat.le_refl _)
  obtain ⟨f, hf, hks, hall⟩ := IsOKeys.of hRA
  obtain ⟨N', hN', hseq⟩ := keysO_stops Fence.wide 1 trivial rfl (Nat.le_refl _) w.heap.size bl N (w.alloc (.cells #[.map (some bl)] 124)) (by simp) (World.news_of_block (heap_alloc_new w _) 0 _ rfl) hf
  have HSo := Lib.hid (sortedU_any 130 #[.pointer (some ⟨w.heap.size, 0, none⟩)] (enters_of Tryz.func130 (by kernel_rfl) rfl) (AllKeys f) N' (by omega)
    (fun ss hs => Nat.lt_of_le_of_lt (nodup_le hs.1 (fun a ha => HKs.out a (hall ss hs a ha))) hK) _ hseq)
  have HKy := Lib.hid hks
  clear hA hRA hf hks hall hseq
  go_wp2_with fail
  refine HSo.out.mono ?_
  rintro e w2 ⟨v, ss, rfl, hS, hown2, hb2⟩
  have hisk := HKy.out _ hS.sorted
  have hlen : ss.length = (ss.mergeSort (fun x y => decide (x ≤ y))).length := by simp
  rw [hlen] at hown2
  generalize ss.mergeSort (fun x y => decide (x ≤ y)) = ks at *
  have hk50 : ks.length < 1000000 := Nat.lt_of_le_of_lt (nodup_le (hisk.1.imp (fun h => by omega)) (fun a ha => HKs.out a ((hisk.2 a).1 ha))) hK
  obtain ⟨ko, kc, hve, _, _⟩ := own_form hown2
  subst hve
  have hbw := HA.out.trans (hb2.mono (by simp))
  have HB2 := Lib.hid hbw
  have hsep : Sep w.heap.size w2 [obVts (.slice none 0 0) 80 [] [], obRow (.slice ko ks.length kc) 39 1 ks.length (u64s ks)] := by
      refine ⟨fun o ho => ?_, fun o ho => ?_, fun o ho k hk => ?_, ?_, hbw.size⟩
      · simp at ho; rcases ho with rfl | rfl
        · exact obVts_good ..
        · exact obRow_good ..
      · simp at ho; rcases ho with rfl | rfl
        · exact ⟨World.ownsRow_nil _ _ _ _, VtC.nil _, by intro u hu; cases hu⟩
        · exact hown2.weaken (Nat.zero_le _)
      · simp at ho; rcases ho with rfl | rfl
        · rcases hk with hk | ⟨u, hu, _⟩
          · cases hk
          · cases hu
        · have := (hown2.lt k hk).1; simp at this; omega
      · refine List.Pairwise.cons (fun x hx k hk => ?_) (List.pairwise_singleton _ _)
        rcases hk with hk | ⟨u, hu, _⟩
        · cases hk
        · cases hu
  have HSep := Lib.hid hsep
  have HIs := Lib.hid hisk
  clear hown2 hb2 hbw hsep hisk hS hlen HSo HKy
  go_wp2_with fail
  go_loopw [12, 5, 7] (fun i ov _ wr => ∃ (k : Nat) (vs : List Value) (ao : Option Addr) (c : Nat), k ≤ ks.length ∧ i = .int .i64 k ∧ ov = .slice ao (opL A.op (ks.take k)).length c ∧ Sep w.heap.size wr [obVts (.slice ao (opL A.op (ks.take k)).length c) 80 vs (opL A.op (ks.take k)), obRow (.slice ko ks.length kc) 39 1 ks.length (u64s ks)] ∧ Below w.heap.size w wr) (fun i _ _ _ => ks.length - (intOf i).toNat)
  case atStart => exact ⟨0, [], none, 0, by omega, rfl, rfl, HSep.out, HB2.out⟩
  case round =>
    clear HSep HB2
    obtain ⟨k, vs, ao, c, hk, rfl, rfl, hsep, hbw⟩ := hrel
    have HSk := Lib.hid hsep
    have HBk := Lib.hid hbw
    clear hsep hbw
    by_cases hlt : k < ks.length
    · have hki : (k : Int) < (ks.length : Int) := by omega
      obtain ⟨id, hid⟩ : ∃ id, ks[k]? = some id := ⟨_, List.getElem?_eq_getElem hlt⟩
      obtain ⟨⟨s, g⟩, hsl⟩ := Option.isSome_iff_exists.1 ((HIs.out.2 id).1 (List.mem_of_getElem? hid))
      have hsm := H.out.op.small id (s, g) hsl
      have hkown : World.ownsRow wr 0 39 1 (.slice ko ks.length kc) ks.length (u64s ks) := HSk.out.get 1 rfl
      obtain ⟨ka, kca, hke, _, _, hkx⟩ := SlR.of_own hkown
      simp only [List.length_map] at hke
      cases hke
      obtain ⟨kad, rfl, hkc⟩ := hkx k (.int .u64 id) (by rw [List.getElem?_map, hid]; rfl)
      have HTk := Lib.hid (opL_take hid hsl)
      have hR := H.out.below HBk.out (Nat.le_refl _)
      obtain ⟨lo, lc, _, hlk0, hsl2, hl1, _, _, _, hl2, hl3⟩ := hR.lookO (slot := id) hsm.1
      have hlk := hlk0 wr rfl
      rw [oOr_some hsl] at hlk hsl2 hl1 hl2
      simp only at hlk hsl2 hl1 hl2
      have hvl := opL_le A.op ks k
      have hk40 : (opL A.op (ks.take k)).length ≤ 1099511627776 := by omega
      have HSl2 := Lib.hid hsl2
      clear hkown hkx hR hlk0 hid hsl hvl hsl2
      go_wp2_with fail
      refine (openFn_any _ _ _ _ _ _ _).mono ?_
      rintro e w3 ⟨rfl, hb3⟩
      have HB3 := Lib.hid hb3
      have HS3 := Lib.hid (HSk.out.step hb3)
      have HCl := Lib.hid (lcopied_any (HSl2.out.below hb3 (Nat.le_refl _)) (by omega : s.val.length ≤ 1000000000))
      clear hb3
      go_wp2_with fail
      refine HCl.out.mono ?_
      rintro e w4 ⟨co, cc, rfl, hown4, hb4⟩
      have hs5 := HS3.out.new hb4 (obRow_good (.slice co s.val.length cc) 5 1 s.val.length (u8s s.val)) (hown4.weaken (Nat.zero_le _)) (fun q hq => (hown4.lt q hq).1)
      have HS5 := Lib.hid (hs5.front 1 rfl)
      have HB5 := Lib.hid ((HBk.out.trans (HB3.out.mono HBk.out.size)).trans (hb4.mono (Nat.le_trans HBk.out.size HB3.out.size)))
      have HO5 := Lib.hid ((HS5.out.get 0 rfl : (obVts (.slice ao (opL A.op (ks.take k)).length c) 80 vs (opL A.op (ks.take k))).inv _).1)
      have HU4 : Hid (∀ u ∈ (#[.int .u64 s.slot, .int .u64 s.ballot, .slice co s.val.length cc] : Array Value).toList, u.oneCell' = true) := Lib.hid (by intro u hu; simp at hu; rcases hu with rfl | rfl | rfl <;> rfl)
      clear hown4 hb4 hs5 HCl
      go_wp2_with (first
        | (at_builtin; (refine wpList_appS rfl (.tmp 16) (.tmp 23) 90 rfl 0 80 i0 _ 3 40 Tryz.underlying90 hi hz0 hz1 hz2 rfl (by decide) (by decide) rfl rfl (by simp) rfl HO5.out HU4.out hk40 (Nat.zero_le _) ?_)
           intro g7 cap7 w7 hown7 hg7 hor7
           have HOwn7 := Lib.hid hown7
           have HG7 := Lib.hid hg7
           have HOr7 := Lib.hid hor7
           clear hown7 hg7 hor7)
        | fail)
      obtain ⟨hsA, hkA⟩ := HS5.out.vtApp (g := g7) (cap := cap7) (s := s) HG7.out HOr7.out HOwn7.out
      have hll : (opL A.op (ks.take k)).length + 1 = (opL A.op (ks.take (k + 1))).length := by rw [HTk.out]; simp
      rw [hll] at hsA
      rw [← HTk.out] at hsA
      have HSA := Lib.hid hsA
      have HLL := Lib.hid hll
      have HBA := Lib.hid (HS5.out.belowAt HB5.out 0 rfl (hkA.mono (fun q _ hq => Or.inl hq)))
      clear hsA hkA hll
      go_roundw
      case rel => exact ⟨k + 1, _, _, _, by omega, by go_num, by rw [← HLL.out], HSA.out, HBA.out⟩
      case measure => simp [intOf]; omega
    · have hkl : k = ks.length := by omega
      have HS9 : Hid (Sep w.heap.size wr [obVts (.slice ao (opL A.op (ks.take k)).length c) 80 vs (opL A.op (ks.take k))]) := Lib.hid (HSk.out.sub (List.sublist_append_left [_] _))
      rw [hkl, List.take_length] at HS9 ⊢
      have hkd : decide ((k : Int) < (ks.length : Int)) = false := decide_eq_false (by omega)
      have HKl := Lib.hid hkl
      clear hkl
      go_wp2_with fail
      go_ret
      exact ⟨ks, ao, c, vs, HIs.out, rfl, ⟨HS9.out, HBk.out⟩⟩
theorem lopen_any {D : Nat → Prop} {w : World} {b0 bl N : Nat} {ko : Option Nat} {A : LS} (h : LeaR w D b0 ko (some bl) N A) (hN : N ≤ 1000000) {K : List Int} (hK : K.length < 1000000) (hKs : ∀ a, (A.op a).isSome = true → a ∈ K) :
    Calls Tryz.prog 38 #[.pointer (some ⟨b0, 0, none⟩)] w (RetRi A.op w) := by
  have HR := Lib.hid (rising_any h hN hK hKs)
  obtain ⟨⟨c0, c1, c2, c3, c4, c5, c6, c7⟩, _⟩ := h.cell
  clear h hKs
  go_enter Tryz.func38, Tryz.ntmps38
  go_wp2_with fail
  refine HR.out.mono ?_
  rintro e w1 ⟨ks, ao, c, vs, h1, rfl, h2⟩
  go_wp2_with fail
  go_ret
  exact ⟨ks, ao, c, vs, h1, rfl, h2⟩
end Go.Proofs.YtgmdedkingampaaGreat

namespace Go.Proofs.YtgmdedkingampaaGreat
open Go.ChangeShapes Go.WideShapes Go.ChangeAt Go.RowKit Go.Maps
set_option maxRecDepth 100000

theorem lacc_no {D : Nat → Prop} {w : World} {b0 N : Nat} {ko lo : Option Nat} {A : LS} (h : LeaR w D b0 ko lo N A) {node b s : Int} (hno : ¬ (A.stage = 2 ∧ b = A.ballot ∧ 0 ≤ node ∧ node < A.many)) :
    Calls Tryz.prog 95 #[.pointer (some ⟨b0, 0, none⟩), .int .i64 node, .int .u64 b, .int .u64 s] w fun e w' => e = .returned (.tuple #[.agg #[.int .u64 0, .int .u64 0, .slice none 0 0], .bool false]) ∧ Below w.heap.size w w' := by
  have hb1 := (Below.refl w.heap.size w).alloc (Nat.le_refl _) (.cells #[.int .u64 0, .int .u64 0, .slice none 0 0] 80)
  have HI := Lib.hid (lis_any (h.below hb1 (Nat.le_refl _)) 2 node b)
  have hd : decide (A.stage = 2 ∧ b = A.ballot ∧ 0 ≤ node ∧ node < A.many) = false := decide_eq_false hno
  rw [hd] at HI
  have HB1 := Lib.hid hb1
  clear h hno hd hb1
  go_enter Tryz.func95, Tryz.ntmps95
  go_wp2_with fail
  refine HI.out.mono ?_
  rintro e w1 ⟨rfl, rfl⟩
  go_wp2_with fail
  have hk := heap_alloc_new w (.cells #[.int .u64 0, .int .u64 0, .slice none 0 0] 80)
  have hb1 := HB1.out
  obtain ⟨W4, HW4⟩ : ∃ x, x = w.alloc (.cells #[.int .u64 0, .int .u64 0, .slice none 0 0] 80) := ⟨_, rfl⟩
  rw [← HW4] at hk hb1 ⊢
  have s0 : W4.cell? ⟨w.heap.size, 0, none⟩ = some (.int .u64 0) := World.news_of_block hk 0 _ rfl
  have s1 : W4.cell? ⟨w.heap.size, 1, none⟩ = some (.int .u64 0) := World.news_of_block hk 1 _ rfl
  have s2 : W4.cell? ⟨w.heap.size, 2, none⟩ = some (.slice none 0 0) := World.news_of_block hk 2 _ rfl
  refine bodyPost_ret (v := .tuple #[.agg #[.int .u64 0, .int .u64 0, .slice none 0 0], .bool false]) (by simp [results, Tryz.results95, go_sem, s0, s1, s2]) rfl ?_
  exact ⟨rfl, hb1⟩
set_option maxHeartbeats 1000000 in
theorem lacc_none {D : Nat → Prop} {w : World} {b0 bl N : Nat} {ko : Option Nat} {A : LS} (h : LeaR w D b0 ko (some bl) N A) {node b s : Int} (hyes : A.stage = 2 ∧ b = A.ballot ∧ 0 ≤ node ∧ node < A.many) (us : U1 s) (hn : A.op s = none) :
    Calls Tryz.prog 95 #[.pointer (some ⟨b0, 0, none⟩), .int .i64 node, .int .u64 b, .int .u64 s] w fun e w' => e = .returned (.tuple #[.agg #[.int .u64 0, .int .u64 0, .slice none 0 0], .bool false]) ∧ Below w.heap.size w w' := by
  have hb1 := (Below.refl w.heap.size w).alloc (Nat.le_refl _) (.cells #[.int .u64 0, .int .u64 0, .slice none 0 0] 80)
  have hR1 := h.below hb1 (Nat.le_refl _)
  have HI := Lib.hid (lis_any hR1 2 node b)
  have hd : decide (A.stage = 2 ∧ b = A.ballot ∧ 0 ≤ node ∧ node < A.many) = true := decide_eq_true hyes
  rw [hd] at HI
  obtain ⟨⟨c0, c1, c2, c3, c4, c5, c6, c7⟩, _⟩ := hR1.cell
  obtain ⟨lo, lc, hlk0, _, hsl2, _⟩ := hR1.lookO (slot := s) us
  have hlk := hlk0 _ rfl
  rw [hn] at hlk
  have e0 : oOr A s = (⟨0, 0, []⟩, fun _ => false) := by unfold oOr; rw [hn]; rfl
  rw [e0] at hlk
  simp only [msk_none, Option.isSome_none] at hlk
  have HB1 := Lib.hid hb1
  clear h hyes hd hb1 hR1 hlk0 hsl2 e0
  go_enter Tryz.func95, Tryz.ntmps95
  go_wp2_with fail
  refine HI.out.mono ?_
  rintro e w1 ⟨rfl, rfl⟩
  go_wp2_with fail
  have hk0 := heap_alloc_new w (.cells #[.int .u64 0, .int .u64 0, .slice none 0 0] 80)
  have hb2 := HB1.out.alloc (by simp) (.cells #[.int .u64 0, .int .u64 0, .slice lo 0 lc, .int .u32 0] 129)
  have hk := (Below.heap_alloc (w.alloc (.cells #[.int .u64 0, .int .u64 0, .slice none 0 0] 80)) (.cells #[.int .u64 0, .int .u64 0, .slice lo 0 lc, .int .u32 0] 129) w.heap.size (by simp)).trans hk0
  obtain ⟨W4, HW4⟩ : ∃ x, x = (w.alloc (.cells #[.int .u64 0, .int .u64 0, .slice none 0 0] 80)).alloc (.cells #[.int .u64 0, .int .u64 0, .slice lo 0 lc, .int .u32 0] 129) := ⟨_, rfl⟩
  rw [← HW4] at hk hb2 ⊢
  have s0 : W4.cell? ⟨w.heap.size, 0, none⟩ = some (.int .u64 0) := World.news_of_block hk 0 _ rfl
  have s1 : W4.cell? ⟨w.heap.size, 1, none⟩ = some (.int .u64 0) := World.news_of_block hk 1 _ rfl
  have s2 : W4.cell? ⟨w.heap.size, 2, none⟩ = some (.slice none 0 0) := World.news_of_block hk 2 _ rfl
  refine bodyPost_ret (v := .tuple #[.agg #[.int .u64 0, .int .u64 0, .slice none 0 0], .bool false]) (by simp [results, Tryz.results95, go_sem, s0, s1, s2]) rfl ?_
  exact ⟨rfl, hb2⟩
end Go.Proofs.YtgmdedkingampaaGreat

namespace Go.Proofs.YtgmdedkingampaaGreat
open Go.ChangeShapes Go.WideShapes Go.ChangeAt Go.RowKit Go.Maps
set_option maxRecDepth 100000

theorem or_msk {f : Nat → Bool} {n : Nat} (hn : n < 32) : bits BinOp.or IntKind.u32 ((msk 32 f : Nat) : Int) ((2 ^ n : Nat) : Int) = ((msk 32 (addK f n) : Nat) : Int) := by
  have h1 := (bits_nat .u32 32 (by decide) (fun n h0 h1 => IntWalk.u32_in n (by constructor <;> omega)) (msk 32 f) (2 ^ n) (msk_lt 32 f) (Nat.pow_lt_pow_right (by decide) hn)).2
  rw [h1, msk_or f hn]
/-- What a vote that is noted comes to. -/
def RetAc (D : Nat → Prop) (b0 N : Nat) (ko lo : Option Nat) (A : LS) (v : Vt) (g : Nat → Bool) (w : World) (e : Ending) (w' : World) : Prop :=
  (A.many / 2 < cnt 32 g → ∃ ao c D' base, e = .returned (.tuple #[.agg #[.int .u64 v.slot, .int .u64 v.ballot, .slice ao v.val.length c], .bool true]) ∧ w'.ownsRow base 5 1 (.slice ao v.val.length c) v.val.length (u8s v.val) ∧ w.heap.size ≤ base ∧ (∀ k, D' k → k < base) ∧
    LeaR w' D' b0 ko lo (N + 1) (opD A v.slot) ∧ Moved D D' w w') ∧
  (¬ A.many / 2 < cnt 32 g → e = .returned (.tuple #[.agg #[.int .u64 0, .int .u64 0, .slice none 0 0], .bool false]) ∧ ∃ D', LeaR w' D' b0 ko lo (N + 1) (opP A v g) ∧ Moved D D' w w')
theorem opD_opP (A : LS) (v : Vt) (g : Nat → Bool) : opD (opP A v g) v.slot = opD A v.slot := by
  unfold opD opP
  simp only [LS.mk.injEq, true_and]
  funext a
  by_cases e : a = v.slot
  · rw [if_pos e, if_pos e]
  · rw [if_neg e, if_neg e, if_neg e]
theorem or_msk2 {f : Nat → Bool} {n : Nat} (hn : n < 32) : bits BinOp.or IntKind.u32 ((msk 32 f : Nat) : Int) ((2 : Int) ^ n % 4294967296) = ((msk 32 (addK f n) : Nat) : Int) := by
  have h1 : (2 : Int) ^ n = ((2 ^ n : Nat) : Int) := by simp
  have h2 : 2 ^ n < 4294967296 := Nat.pow_lt_pow_right (m := n) (n := 32) (by decide) hn
  have h3 := or_msk (f := f) hn
  rw [h1]
  generalize 2 ^ n = m at *
  rw [Int.emod_eq_of_lt (by omega) (by omega), h3]
set_option maxHeartbeats 4000000 in
theorem lacc_ok {D : Nat → Prop} {w : World} {b0 bl N : Nat} {ko : Option Nat} {A : LS} (h : LeaR w D b0 ko (some bl) N A) {n : Nat} {b s : Int} (hyes : A.stage = 2 ∧ b = A.ballot ∧ 0 ≤ (n : Int) ∧ (n : Int) < A.many) (us : U1 s) {v : Vt} {g : Nat → Bool} (hs : A.op s = some (v, g)) (hN : N < 1000000) :
    Calls Tryz.prog 95 #[.pointer (some ⟨b0, 0, none⟩), .int .i64 n, .int .u64 b, .int .u64 s] w (RetAc D b0 N ko (some bl) A v (addK g n) w) := by
  have hsm := h.op.small s (v, g) hs
  obtain ⟨vs, vb, vx⟩ := v
  obtain ⟨_, hvs, hvb, hv8, hvl⟩ := hsm
  simp only at hvs hvb hv8 hvl
  subst hvs
  have hb1 := (Below.refl w.heap.size w).alloc (Nat.le_refl _) (.cells #[.int .u64 0, .int .u64 0, .slice none 0 0] 80)
  have hR1 := h.below hb1 (Nat.le_refl _)
  have HI := Lib.hid (lis_any hR1 2 n b)
  have hd : decide (A.stage = 2 ∧ b = A.ballot ∧ 0 ≤ (n : Int) ∧ (n : Int) < A.many) = true := decide_eq_true hyes
  rw [hd] at HI
  have hm := h.many
  have hn32 : n < 32 := by omega
  obtain ⟨⟨c0, c1, c2, c3, c4, c5, c6, c7⟩, _⟩ := hR1.cell
  obtain ⟨lo, lc, hlk0, _, hsl2, _, _, _, hvo, hlc1, hlc2⟩ := h.lookO (slot := vs) us
  obtain ⟨f, hf, hv, hx⟩ := h.op.some_ bl rfl
  have hlk := hlk0 (w.alloc (.cells #[.int .u64 0, .int .u64 0, .slice none 0 0] 80)) (hb1.block bl hf.lt)
  rw [oOr_some hs] at hlk hsl2 hvo hlc1
  simp only [hs, Option.isSome_some] at hlk hsl2 hvo hlc1
  have hb2 := hb1.alloc (by simp) (.cells #[.int .u64 vs, .int .u64 vb, .slice lo vx.length lc, .int .u32 (msk 32 g)] 129)
  have hor := or_msk2 (f := g) hn32
  have H := Lib.hid h
  have HB1 := Lib.hid hb1
  have HB2 := Lib.hid hb2
  have HV := Lib.hid hv
  have HX := Lib.hid hx
  have HF := Lib.hid hf
  have HS := Lib.hid hsl2
  have HVo := Lib.hid hvo
  clear hyes hd hb1 hR1 hlk0 hb2 h hv hx hf hsl2 hvo hs
  go_enter Tryz.func95, Tryz.ntmps95
  go_wp2_with fail
  refine HI.out.mono ?_
  rintro e w1 ⟨rfl, rfl⟩
  go_wp2_with fail
  go_region
  clear hlk c0 c1 c2 c3 c4 c5 c6 c7 hor
  obtain ⟨W3, HW3⟩ : ∃ x, x = ((w.alloc (.cells #[.int .u64 0, .int .u64 0, .slice none 0 0] 80)).alloc (.cells #[.int .u64 vs, .int .u64 vb, .slice lo vx.length lc, .int .u32 (msk 32 (addK g n))] 129)).drew := ⟨_, rfl⟩
  rw [← HW3]
  have hb3 : Below w.heap.size w W3 := by rw [HW3]; exact (HB1.out.alloc (by simp) _).drew
  have hz3 : W3.heap.size = w.heap.size + 2 := by rw [HW3]; simp
  have hv3 : W3.heap[w.heap.size]? = some (.cells #[.int .u64 0, .int .u64 0, .slice none 0 0] 80 (0, 0)) := by
    rw [HW3]; exact (Below.heap_alloc _ _ _ (by simp)).trans (heap_alloc_new w _)
  have ho3 : W3.heap[w.heap.size + 1]? = some (.cells #[.int .u64 vs, .int .u64 vb, .slice lo vx.length lc, .int .u32 (msk 32 (addK g n))] 129 (0, 0)) := by
    rw [HW3]
    have := heap_alloc_new (w.alloc (.cells #[.int .u64 0, .int .u64 0, .slice none 0 0] 80)) (.cells #[.int .u64 vs, .int .u64 vb, .slice lo vx.length lc, .int .u32 (msk 32 (addK g n))] 129)
    rw [show (w.alloc (.cells #[.int .u64 0, .int .u64 0, .slice none 0 0] 80)).heap.size = w.heap.size + 1 by simp] at this
    exact this
  clear HW3
  have HW : Hid (∀ wm : World, Below W3.heap.size W3 wm → wm.cell? ⟨b0, 7, none⟩ = some (.map (some bl)) ∧ wm.cell? ⟨w.heap.size + 1, 0, none⟩ = some (.int .u64 vs) ∧ wm.cell? ⟨w.heap.size + 1, 1, none⟩ = some (.int .u64 vb) ∧ wm.cell? ⟨w.heap.size + 1, 2, none⟩ = some (.slice lo vx.length lc) ∧ wm.cell? ⟨w.heap.size + 1, 3, none⟩ = some (.int .u32 (msk 32 (addK g n)))) := Lib.hid (by
    intro wm hbm
    obtain ⟨⟨_, _, _, _, _, _, _, e7⟩, _⟩ := (H.out.below (hb3.trans (hbm.mono hb3.size)) (Nat.le_refl _)).cell
    have hxm := (hbm.block (w.heap.size + 1) (by omega)).trans ho3
    exact ⟨e7, World.news_of_block hxm 0 _ rfl, World.news_of_block hxm 1 _ rfl, World.news_of_block hxm 2 _ rfl, World.news_of_block hxm 3 _ rfl⟩)
  obtain ⟨w2, hrun, hm2, hg2⟩ := (HF.out.same (show W3.drew.heap[bl]? = w.heap[bl]? from hb3.block bl HF.out.lt)).store uKeyed Tryz.underlying124 (by unfold maxLen; omega) (u_key us) (val := .agg #[.int .u64 vs, .int .u64 vb, .slice lo vx.length lc, .int .u32 (msk 32 (addK g n))]) (by trivial)
  obtain ⟨r7, r0, r1, r2, r3⟩ := HW.out W3.drew (Below.refl _ _).drew
  have hne0 := H.out.ne.2.1 bl rfl
  have hlt2 := LR_lt H.out bl (Or.inr (Or.inr rfl))
  have q7 := hg2.cell r7 (by simp; omega)
  have q0 := hg2.cell r0 (by simp; omega)
  have q1 := hg2.cell r1 (by simp; omega)
  have q2 := hg2.cell r2 (by simp; omega)
  have q3 := hg2.cell r3 (by simp; omega)
  have HM2 := Lib.hid hm2
  have HG2 := Lib.hid hg2
  have HB3 := Lib.hid hb3
  have HV3 := Lib.hid hv3
  have HO3 := Lib.hid ho3
  clear hm2 hg2 hb3 hv3 ho3
  go_wp2_with fail
  go_region_held3 (fun w' => w'.cell? ⟨b0, 7, none⟩ = some (.map (some bl)) ∧ w'.cell? ⟨w.heap.size + 1, 0, none⟩ = some (.int .u64 vs) ∧ w'.cell? ⟨w.heap.size + 1, 1, none⟩ = some (.int .u64 vb) ∧ w'.cell? ⟨w.heap.size + 1, 2, none⟩ = some (.slice lo vx.length lc) ∧ w'.cell? ⟨w.heap.size + 1, 3, none⟩ = some (.int .u32 (msk 32 (addK g n)))) (first | go_keep)
      (first | fail)
  clear r0 r1 r2 r3 r7 hrun
  have hsl3 : SlR W3.drew (.slice lo vx.length lc) (u8s vx) := (HS.out.below HB3.out (Nat.le_refl _)).below (Below.refl _ _).drew (Nat.le_refl _)
  have hz1 : (w.alloc (.cells #[.int .u64 0, .int .u64 0, .slice none 0 0] 80)).heap.size = w.heap.size + 1 := by simp
  have hb13 : Below (w.alloc (.cells #[.int .u64 0, .int .u64 0, .slice none 0 0] 80)).heap.size (w.alloc (.cells #[.int .u64 0, .int .u64 0, .slice none 0 0] 80)) W3 := by
    refine ⟨HB3.out.os, HB3.out.tape, HB3.out.output, by omega, fun k hk => ?_⟩
    by_cases e : k = w.heap.size
    · subst e; exact HV3.out.trans (heap_alloc_new w _).symm
    · have hk2 : k < w.heap.size := by omega
      exact (HB3.out.block k hk2).trans (Below.heap_alloc _ _ _ hk2).symm
  obtain ⟨hA, hkA⟩ := (H.out.below HB1.out (Nat.le_refl _)).putO (wm := W3.drew) (v := ⟨vs, vb, vx⟩) (g := addK g n) hb13.drew hsl3 (fun k hk => Or.inl (HVo.out k hk)) HM2.out HG2.out (fun a ha => (HV.out a ha).keep (Below.keep0 (fun _ => False) HB1.out) (fun _ hk _ => hk.elim) (fun _ h => h) (fun _ _ h => h)) HX.out us hvb hv8 hvl
  have hkA := (Below.keep0 (fun k => k = bl) HB1.out).trans hkA
  have HA := Lib.hid hA
  have HKA := Lib.hid hkA
  have hMj := lmajority_any hA (addK g n)
  have HMj := Lib.hid hMj
  have hk2 : Keep (fun k => k = bl) W3.drew w2 := Keep.grown HG2.out (fun k hk => by cases hk; rfl)
  have hv2 := (hk2.block w.heap.size (by simp; omega) (by omega)).trans (show W3.drew.heap[w.heap.size]? = _ from HV3.out)
  have HV2 := Lib.hid hv2
  have HO2 := Lib.hid ((hk2.block (w.heap.size + 1) (by simp; omega) (by omega)).trans (show W3.drew.heap[w.heap.size + 1]? = _ from HO3.out))
  have hz2 := hk2.size
  have hz2 : w.heap.size + 2 ≤ w2.heap.size := by simp at hz2; omega
  have HKL := Lib.hid hkA
  clear hA hkA hMj hk2 hv2 hsl3
  go_wp2_with fail
  refine HMj.out.mono ?_
  rintro e w4 ⟨rfl, hD4⟩
  obtain ⟨nd, rfl⟩ := hD4
  have hDl : ∀ k, D k → k < w.heap.size := H.out.lt
  have hbl := H.out.dr bl (Or.inr (Or.inr rfl))
  have HKW : Hid (Keep D w (w2.drewN nd)) := Lib.hid ((HKA.out.mono (fun k _ e => by subst e; exact hbl)).drewN nd)
  have hv4 : (w2.drewN nd).heap[w.heap.size]? = some (.cells #[.int .u64 0, .int .u64 0, .slice none 0 0] 80 (0, 0)) := HV2.out
  have ho4 : (w2.drewN nd).heap[w.heap.size + 1]? = some (.cells #[.int .u64 vs, .int .u64 vb, .slice lo vx.length lc, .int .u32 (msk 32 (addK g n))] 129 (0, 0)) := HO2.out
  have HA4 := Lib.hid (HA.out.below (Below.refl w2.heap.size w2 |> fun h => below_drewN h nd) (Nat.le_refl _))
  have hz4 : w.heap.size + 2 ≤ (w2.drewN nd).heap.size := hz2
  have hz5 : (w2.drewN nd).heap.size = w2.heap.size := rfl
  have HSL5 : Hid (SlR (w2.drewN nd) (.slice lo vx.length lc) (u8s vx)) := Lib.hid ((HS.out.keep HKL.out (fun k hk e => by subst e; exact (HVo.out k hk).2 (Or.inr (Or.inr rfl)))).drewN nd)
  generalize w2.drewN nd = w5 at *
  have z0 : w5.frozen? ⟨w.heap.size, 0, none⟩ = false := by simp [World.frozen?, hv4]
  have z1 : w5.frozen? ⟨w.heap.size, 1, none⟩ = false := by simp [World.frozen?, hv4]
  have z2 : w5.frozen? ⟨w.heap.size, 2, none⟩ = false := by simp [World.frozen?, hv4]
  have x0 : w5.cell? ⟨w.heap.size, 0, none⟩ = some (.int .u64 0) := World.news_of_block hv4 0 _ rfl
  have x1 : w5.cell? ⟨w.heap.size, 1, none⟩ = some (.int .u64 0) := World.news_of_block hv4 1 _ rfl
  have x2 : w5.cell? ⟨w.heap.size, 2, none⟩ = some (.slice none 0 0) := World.news_of_block hv4 2 _ rfl
  have hmany : (opP A ⟨vs, vb, vx⟩ (addK g n)).many = A.many := rfl
  rw [hmany]
  have HV5 := Lib.hid hv4
  have HO5 := Lib.hid ho4
  clear hv4 ho4 hmany HV2 HO2 HO3 HV3 q0 q1 q2 q3 q7
  by_cases hmj : A.many / 2 < cnt 32 (addK g n)
  · have hdm : decide (A.many / 2 < cnt 32 (addK g n)) = true := decide_eq_true hmj
    rw [hdm]
    have HMJ := Lib.hid hmj
    clear hmj hdm
    obtain ⟨⟨_, _, _, _, _, _, _, e7⟩, _⟩ := HA4.out.cell
    obtain ⟨f5, hf5, hv5, hx5⟩ := HA4.out.op.some_ bl rfl
    have HV6 := Lib.hid hv5
    have HX6 := Lib.hid hx5
    clear hv5 hx5
    go_wp2_with (first
      | (at_delete; (refine wpList_deleteR rfl (.tmp 51) (.tmp 52) 124 39 rfl 129 uKeyed Tryz.underlying124 bl (N + 1) rfl hf5 (.int .u64 vs) (.int .u64 vs) rfl (u_key us) ?_)
         intro w6 hm6 hg6
         obtain ⟨hA6, hk6⟩ := HA4.out.delO hm6 hg6 HV6.out HX6.out
         have ho6 := (hk6.block (w.heap.size + 1) (by omega) (by omega)).trans HO5.out
         have hv6 := (hk6.block w.heap.size (by omega) (by omega)).trans HV5.out
         have p0 : w6.cell? ⟨w.heap.size + 1, 0, none⟩ = some (.int .u64 vs) := World.news_of_block ho6 0 _ rfl
         have p1 : w6.cell? ⟨w.heap.size + 1, 1, none⟩ = some (.int .u64 vb) := World.news_of_block ho6 1 _ rfl
         have p2 : w6.cell? ⟨w.heap.size + 1, 2, none⟩ = some (.slice lo vx.length lc) := World.news_of_block ho6 2 _ rfl
         have hsl6 : SlR w6 (.slice lo vx.length lc) (u8s vx) := (HSL5.out.keep hk6 (fun k hk e => by subst e; exact (HVo.out k hk).2 (Or.inr (Or.inr rfl))))
         have HCp := Lib.hid (lcopied_any (v := ⟨vs, vb, vx⟩) hsl6 (by show vx.length ≤ 1000000000; omega))
         have HA6 := Lib.hid hA6
         have HK6 := Lib.hid hk6
         have HV7 := Lib.hid hv6
         clear hm6 hg6 hA6 hk6 ho6 hv6 hsl6)
      | fail)
    refine HCp.out.mono ?_
    rintro e w7 ⟨co, cc, rfl, hown7, hb7⟩
    have hz6 := HK6.out.size
    have hr7 := (hb7.block w.heap.size (by omega)).trans HV7.out
    have y0 : w7.cell? ⟨w.heap.size, 0, none⟩ = some (.int .u64 0) := World.news_of_block hr7 0 _ rfl
    have y1 : w7.cell? ⟨w.heap.size, 1, none⟩ = some (.int .u64 0) := World.news_of_block hr7 1 _ rfl
    have y2 : w7.cell? ⟨w.heap.size, 2, none⟩ = some (.slice none 0 0) := World.news_of_block hr7 2 _ rfl
    have u0 : w7.frozen? ⟨w.heap.size, 0, none⟩ = false := by simp [World.frozen?, hr7]
    have u1 : w7.frozen? ⟨w.heap.size, 1, none⟩ = false := by simp [World.frozen?, hr7]
    have u2 : w7.frozen? ⟨w.heap.size, 2, none⟩ = false := by simp [World.frozen?, hr7]
    have HR7 := Lib.hid hr7
    have HO7 := Lib.hid hown7
    have HB7 := Lib.hid hb7
    clear hr7 hown7 hb7
    go_wp2_with fail
    have e1 := heap_setCell_same _ w.heap.size 0 _ _ (.int .u64 vs) HR7.out
    have e2 := heap_setCell_same _ w.heap.size 1 _ _ (.int .u64 vb) e1
    have e3 := heap_setCell_same _ w.heap.size 2 _ _ (.slice co vx.length cc) e2
    have hk8 : Keep (fun k => k = w.heap.size) w7 (((w7.setCell ⟨w.heap.size, 0, none⟩ (.int .u64 vs)).setCell ⟨w.heap.size, 1, none⟩ (.int .u64 vb)).setCell ⟨w.heap.size, 2, none⟩ (.slice co vx.length cc)) :=
      (((Keep.refl (fun k => k = w.heap.size) w7).setCell (p := ⟨w.heap.size, 0, none⟩) (Or.inl rfl) _).setCell (p := ⟨w.heap.size, 1, none⟩) (Or.inl rfl) _).setCell (p := ⟨w.heap.size, 2, none⟩) (Or.inl rfl) _
    generalize ((w7.setCell ⟨w.heap.size, 0, none⟩ (.int .u64 vs)).setCell ⟨w.heap.size, 1, none⟩ (.int .u64 vb)).setCell ⟨w.heap.size, 2, none⟩ (.slice co vx.length cc) = W8 at *
    have s0 : W8.cell? ⟨w.heap.size, 0, none⟩ = some (.int .u64 vs) := World.news_of_block e3 0 _ rfl
    have s1 : W8.cell? ⟨w.heap.size, 1, none⟩ = some (.int .u64 vb) := World.news_of_block e3 1 _ rfl
    have s2 : W8.cell? ⟨w.heap.size, 2, none⟩ = some (.slice co vx.length cc) := World.news_of_block e3 2 _ rfl
    refine bodyPost_ret (v := .tuple #[.agg #[.int .u64 vs, .int .u64 vb, .slice co vx.length cc], .bool true]) (by simp [results, Tryz.results95, go_sem, s0, s1, s2]) rfl ?_
    have hA6 := HA6.out
    have hod := opD_opP A ⟨vs, vb, vx⟩ (addK g n)
    simp only at hod
    rw [hod] at hA6
    have hA8 := (hA6.below HB7.out (Nat.le_refl _)).keep hk8 (fun k e hd => by
      rcases hd with hd | hd
      · have := hDl k hd; omega
      · omega)
    refine ⟨fun _ => ⟨co, cc, _, w6.heap.size, rfl, own_keepS hk8 HO7.out (fun k hk e => by have := (HO7.out.lt k hk).1; omega), by omega, fun k hk => ?_, hA8, ⟨?_, fun k hd => Or.inl hd, fun k hd => ?_⟩⟩, fun hn => absurd HMJ.out (by simpa using hn)⟩
    · rcases hk with hk | hk
      · have := hDl k hk; omega
      · omega
    · have k1 : Keep (fun k => D k ∨ w.heap.size ≤ k) w W8 := ((HKW.out.mono (fun k _ hd => Or.inl hd)).trans ((HK6.out.mono (fun k _ e => by subst e; exact Or.inl hbl)).trans (Below.keep0 _ HB7.out))).trans (hk8.mono (fun k _ e => Or.inr (by omega)))
      exact k1.mono (fun k hk hd => by
        rcases hd with hd | hd
        · exact hd
        · omega)
    · rcases hd with hd | hd
      · exact Or.inl hd
      · exact Or.inr (by omega)
  · have hdm : decide (A.many / 2 < cnt 32 (addK g n)) = false := decide_eq_false hmj
    rw [hdm]
    have HMJ := Lib.hid hmj
    clear hmj hdm
    go_wp2_with fail
    have e1 := heap_setCell_same _ w.heap.size 0 _ _ (.int .u64 0) HV5.out
    have e2 := heap_setCell_same _ w.heap.size 1 _ _ (.int .u64 0) e1
    have e3 := heap_setCell_same _ w.heap.size 2 _ _ (.slice none 0 0) e2
    have hk8 : Keep (fun k => k = w.heap.size) w5 (((w5.setCell ⟨w.heap.size, 0, none⟩ (.int .u64 0)).setCell ⟨w.heap.size, 1, none⟩ (.int .u64 0)).setCell ⟨w.heap.size, 2, none⟩ (.slice none 0 0)) :=
      (((Keep.refl (fun k => k = w.heap.size) w5).setCell (p := ⟨w.heap.size, 0, none⟩) (Or.inl rfl) _).setCell (p := ⟨w.heap.size, 1, none⟩) (Or.inl rfl) _).setCell (p := ⟨w.heap.size, 2, none⟩) (Or.inl rfl) _
    generalize ((w5.setCell ⟨w.heap.size, 0, none⟩ (.int .u64 0)).setCell ⟨w.heap.size, 1, none⟩ (.int .u64 0)).setCell ⟨w.heap.size, 2, none⟩ (.slice none 0 0) = W8 at *
    have s0 : W8.cell? ⟨w.heap.size, 0, none⟩ = some (.int .u64 0) := World.news_of_block e3 0 _ rfl
    have s1 : W8.cell? ⟨w.heap.size, 1, none⟩ = some (.int .u64 0) := World.news_of_block e3 1 _ rfl
    have s2 : W8.cell? ⟨w.heap.size, 2, none⟩ = some (.slice none 0 0) := World.news_of_block e3 2 _ rfl
    refine bodyPost_ret (v := .tuple #[.agg #[.int .u64 0, .int .u64 0, .slice none 0 0], .bool false]) (by simp [results, Tryz.results95, go_sem, s0, s1, s2]) rfl ?_
    refine ⟨fun hy => absurd hy (by have := HMJ.out; omega), fun _ => ⟨rfl, fun k => D k ∨ ((w.alloc (.cells #[.int .u64 0, .int .u64 0, .slice none 0 0] 80)).heap.size ≤ k ∧ k < w2.heap.size), HA4.out.keep hk8 (fun k e hd => ?_), ⟨?_, fun k hd => Or.inl hd, fun k hd => ?_⟩⟩⟩
    · rcases hd with hd | hd
      · have := hDl k hd; omega
      · omega
    · have k1 : Keep (fun k => D k ∨ w.heap.size ≤ k) w W8 := (HKW.out.mono (fun k _ hd => Or.inl hd)).trans (hk8.mono (fun k _ e => Or.inr (by omega)))
      exact k1.mono (fun k hk hd => by
        rcases hd with hd | hd
        · exact hd
        · omega)
    · rcases hd with hd | hd
      · exact Or.inl hd
      · exact Or.inr (by omega)
end Go.Proofs.YtgmdedkingampaaGreat
