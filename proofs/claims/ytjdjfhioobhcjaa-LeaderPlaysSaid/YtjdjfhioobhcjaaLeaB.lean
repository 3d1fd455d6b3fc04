/-
  Package leader: Accepted.
-/
import Derived.Test.YtjdjfhioobhcjaaKeyB
import Derived.Test.YtjdjfhioobhcjaaLea8
namespace Go.Proofs.Ytjdjfhioobhcjaa
open Go.RowKit Go.Shelf Go.Maps

attribute [local go_sem] Oper.semAt_some

set_option maxRecDepth 100000 in
set_option maxHeartbeats 1000000 in
theorem keysO1_in (F : Fence) (n : Nat) (hf : F.fn 93) (hro : F.round = none) (hn : 1 ≤ n) (l Bm b nn : Nat) (D0 : DataW Value) (J Jx : List Int → World → Prop)
    (hY : ∀ pre x W, J pre W → pre.length < Maps.size D0 → YieldAt F (n - 1) Try.prog l #[.int .u64 x] W fun e W' =>
      (e = .returned (.bool true) ∧ J (pre ++ [x]) W' ∧ KeepsWalks W W') ∨ (e = .returned (.bool false) ∧ Jx (pre ++ [x]) W'))
    (W : World) (hJ : AbidesFrom W.heap.size J) (hm : W.cell? ⟨Bm, 0, none⟩ = some (.map (some b))) (hown : W.ownsMap Try.prog 29 heldR b nn D0) (h0 : J [] W) :
    CallsIn F n Try.prog 93 #[.func (.yield l) #[] #[], .pointer (some ⟨Bm, 0, none⟩)] W fun e W' => (∃ v, e = .returned v) ∧
      ((∃ ss : List Int, (ss.Nodup ∧ ∀ x, x ∈ ss ↔ has D0 (.int .u64 x) = true) ∧ J ss W') ∨ (∃ pre : List Int, True ∧ Jx pre W')) := by
  have kU : Keyed Try.prog 29 := int_keyed Try.underlying29
  refine callsIn_of_wp Try.func93 rfl hf ?_ hro
  simp only [Try.ntmps93, List.size_toArray, List.length_cons, List.length_nil, Nat.reduceAdd, Nat.reduceSub, Array.replicate_succ, Array.replicate_zero, List.push_toArray, List.append_toArray, List.nil_append, List.cons_append]
  gi_wp2_with (first
    | (gi_at_range; refine wpListIn_range_own _ rfl _ 114 rfl 29 127 kU Try.underlying114 _ b nn _ rfl hown ?_; intro w0 hrg0 hg0 hs0)
    | gi_in)
  go_frame
  gi_loopw [3] (fun _ wr => ∃ (left : Lit → Bool) (cnt : Nat) (ss : List Int), wr.ranges Try.prog 29 heldR b W.heap.size nn D0 left cnt ∧ ss.length + cnt ≤ Maps.size D0 ∧ CollU D0 left ss ∧ J ss wr)
    (fun _ wr => wr.rangeLeft b W.heap.size)
  case atStart =>
    exact ⟨_, _, [], hrg0, by simp, CollU.start D0, hJ [] W w0 none h0 hg0 (fun r e => by cases e)⟩
  case round =>
    obtain ⟨left, cnt, ss, hrg, hcs, hC, hJs⟩ := hrel
    gi_wp2_with (first
      | (gi_at_next; refine wpListIn_next_ranges _ rfl _ rfl 29 kU heldR (Value.int .u64) id (fun key kl hk => by obtain ⟨x, hx, _⟩ := Maps.keyOf_int_inv Try.underlying29 hk; exact ⟨x, hx⟩) (fun v _ _ => ⟨v, rfl⟩) b W.heap.size nn _ _ _ rfl hrg ?_ ?_)
      | gi_in)
    · intro hc0 hl0
      gi_wp2
      go_end0
      exact ⟨⟨_, rfl⟩, .inl ⟨ss, ⟨hC.1, fun x => by rw [hC.2 x, hl0]; simp⟩, hJs⟩⟩
    · intro x c kl yd yp w2 cnt2 hkey hlk hv hat hrg2 hlt hg2 hs2 hen
      obtain ⟨x', ex, rfl, _⟩ := Maps.keyOf_int_inv Try.underlying29 hkey
      obtain rfl : x = x' := by cases ex; rfl
      have hJ2 : J ss w2 := hJ ss wr w2 (some W.heap.size) hJs hg2 (fun r e => by cases e; exact ⟨Nat.le_refl _, hrg.iter_walk⟩)
      obtain ⟨fn, tmps, assign, body, hy, hR⟩ := hY ss x w2 hJ2 (by omega)
      clear hs2
      gi_wp2
      refine hR.mono ?_
      have hC2 := hC.step hlk hat
      rintro e W3 (⟨rfl, hJ3, hk3⟩ | ⟨rfl, hJx3⟩)
      · gi_wp2
        have hrg3 := hrg2.of_walks hk3
        go_roundw
        case rel => exact ⟨_, cnt2, ss ++ [x], hrg3, by simp; omega, hC2, hJ3⟩
        case measure => rw [hrg3.left_eq, hrg.left_eq]; exact hlt
      · gi_wp2
        refine bodyPost_ret (results_none rfl _ _ _) rfl ?_
        exact ⟨⟨_, rfl⟩, .inr ⟨ss ++ [x], trivial, hJx3⟩⟩
theorem keysO_any (mb : Option Nat) (w : World) : Calls Try.prog 82 #[.map mb] w fun e w' =>
    e = .returned (.func (.func 93) #[] #[.pointer (some ⟨w.heap.size, 0, none⟩)]) ∧ w' = w.alloc (.cells #[.map mb] 114) := by
  go_enter Try.func82, Try.ntmps82
  go_wp2
  go_ret
  exact ⟨rfl, rfl⟩
theorem keysO_stops (F : Fence) (n : Nat) (hf : F.fn 93) (hro : F.round = none) (hn : 1 ≤ n) (Bm b nn : Nat) {f : Lit → Option Value} (w : World) (hBm : Bm < w.heap.size) (hm : w.cell? ⟨Bm, 0, none⟩ = some (.map (some b))) (h : MapR w Try.prog 29 b nn f) :
    ∃ N, N ≤ nn ∧ SeqStopsK F n Try.prog 93 #[.pointer (some ⟨Bm, 0, none⟩)] (fun x : Int => #[Value.int .u64 x]) KeepsWalks (AllKeys f) (fun _ => True) N w := by
  obtain ⟨D, hown, _, hf'⟩ := h
  refine ⟨Maps.size D, hown.size_le, fun l J Jx W hW hJ _ hY h0 => ?_⟩
  have hown' : W.ownsMap Try.prog 29 heldR b nn D := by
    have hbl := hown.lt
    obtain ⟨es, clock, hb, Ft, hs, hD⟩ := hown
    exact ⟨es, clock, (hW.block b hbl).trans hb, Ft, hs, hD⟩
  refine (keysO1_in F n hf hro hn l Bm b nn D J Jx hY W hJ ((hW.cell (p := ⟨Bm, 0, none⟩) hBm).trans hm) hown' h0).mono ?_
  rintro e W' ⟨h1, h2⟩
  refine ⟨h1, h2.imp (fun ⟨ss, ⟨a, b⟩, c⟩ => ⟨ss, ⟨a, fun x => by rw [b x, (hf' _).1]⟩, c⟩) (fun ⟨pre, a, c⟩ => ⟨pre, a, c⟩)⟩
end Go.Proofs.Ytjdjfhioobhcjaa

namespace Go.Proofs.Ytjdjfhioobhcjaa
open Go.ChangeShapes Go.WideShapes Go.ChangeAt Go.RowKit Go.Maps Go.Shelf
set_option maxRecDepth 100000

theorem openFn_any (w : World) (s b n : Int) (ao : Option Addr) (l c : Nat) : Calls Try.prog 63 #[.agg #[.int .u64 s, .int .u64 b, .slice ao l c, .int .u32 n]] w fun e w' => e = .returned (.agg #[.int .u64 s, .int .u64 b, .slice ao l c]) ∧ Below w.heap.size w w' := by
  have hb : Below w.heap.size w ((w.alloc (.cells #[.int .u64 s, .int .u64 b, .slice ao l c, .int .u32 n] 127)).alloc (.cells #[.int .u64 s, .int .u64 b, .slice ao l c] 39)) := ((Below.refl _ _).alloc (Nat.le_refl _) _).alloc (by simp) _
  have hk := heap_alloc_new (w.alloc (.cells #[.int .u64 s, .int .u64 b, .slice ao l c, .int .u32 n] 127)) (.cells #[.int .u64 s, .int .u64 b, .slice ao l c] 39)
  rw [show (w.alloc (.cells #[.int .u64 s, .int .u64 b, .slice ao l c, .int .u32 n] 127)).heap.size = w.heap.size + 1 by simp] at hk
  have HK := Lib.hid hk
  have HB := Lib.hid hb
  clear hk hb
  go_enter Try.func63, Try.ntmps63
  go_wp2
  obtain ⟨W4, HW4⟩ : ∃ x, x = (w.alloc (.cells #[.int .u64 s, .int .u64 b, .slice ao l c, .int .u32 n] 127)).alloc (.cells #[.int .u64 s, .int .u64 b, .slice ao l c] 39) := ⟨_, rfl⟩
  have hk := HK.out
  have hb := HB.out
  rw [← HW4] at hk hb ⊢
  have s0 : W4.cell? ⟨w.heap.size + 1, 0, none⟩ = some (.int .u64 s) := World.news_of_block hk 0 _ rfl
  have s1 : W4.cell? ⟨w.heap.size + 1, 1, none⟩ = some (.int .u64 b) := World.news_of_block hk 1 _ rfl
  have s2 : W4.cell? ⟨w.heap.size + 1, 2, none⟩ = some (.slice ao l c) := World.news_of_block hk 2 _ rfl
  refine bodyPost_ret (v := .agg #[.int .u64 s, .int .u64 b, .slice ao l c]) (by simp [results, Try.results63, go_sem, s0, s1, s2]) rfl ?_
  exact ⟨rfl, hb⟩
/-- The slots with proposals, rising. -/
def IsOKeys (l : Int → Option (Vt × (Nat → Bool))) (ks : List Int) : Prop := ks.Pairwise (· < ·) ∧ ∀ x, x ∈ ks ↔ (l x).isSome = true
def opL (l : Int → Option (Vt × (Nat → Bool))) (ks : List Int) : List Vt := ks.filterMap (fun a => (l a).map Prod.fst)
theorem opL_take {l : Int → Option (Vt × (Nat → Bool))} {ks : List Int} {k : Nat} {x : Int} {q : Vt × (Nat → Bool)} (hk : ks[k]? = some x) (hv : l x = some q) : opL l (ks.take (k + 1)) = opL l (ks.take k) ++ [q.1] := by
  obtain ⟨h1, h2⟩ := List.getElem?_eq_some_iff.1 hk
  unfold opL
  rw [List.take_succ_eq_append_getElem h1, h2, List.filterMap_append]
  simp [hv]
theorem opL_le (l : Int → Option (Vt × (Nat → Bool))) (ks : List Int) (k : Nat) : (opL l (ks.take k)).length ≤ k := by
  unfold opL
  have h1 := List.length_filterMap_le (fun a => (l a).map Prod.fst) (ks.take k)
  have h3 := List.length_take_le k ks
  omega
theorem IsOKeys.of {w : World} {D : Nat → Prop} {b0 bl N : Nat} {ko : Option Nat} {A : LS} (h : LeaR w D b0 ko (some bl) N A) : ∃ f, MapR w Try.prog 29 bl N f ∧ (∀ ks, SortedKeys f ks → IsOKeys A.op ks) ∧ ∀ ss, AllKeys f ss → ∀ x ∈ ss, (A.op x).isSome = true := by
  obtain ⟨f, hf, hv, hx⟩ := h.op.some_ bl rfl
  have key : ∀ x : Int, (f (.int .u64 x)).isSome = true ↔ (A.op x).isSome = true := by
    intro x
    constructor
    · intro hs
      obtain ⟨a, ha, e⟩ := hx _ hs
      cases e
      have := hv x ha
      cases hl : A.op x with
      | none => rw [hl] at this; have h0 : f (.int .u64 x) = none := this; rw [h0] at hs; cases hs
      | some v => rfl
    · intro hs
      obtain ⟨v, hl⟩ := Option.isSome_iff_exists.1 hs
      have := hv x (h.op.small x v hl).1
      rw [hl] at this
      obtain ⟨v1, v2⟩ := v
      obtain ⟨sv, e, _⟩ := this
      rw [e]; rfl
  exact ⟨f, hf, fun ks hk => ⟨hk.1, fun x => (hk.2 x).trans (key x)⟩, fun ss hs x hx => (key x).1 ((hs.2 x).1 hx)⟩
end Go.Proofs.Ytjdjfhioobhcjaa

namespace Go.Proofs.Ytjdjfhioobhcjaa
open Go.ChangeShapes Go.WideShapes Go.ChangeAt Go.RowKit Go.Maps Go.Shelf
set_option maxRecDepth 100000

/-- What 'rising' comes to. -/
def RetRi (l : Int → Option (Vt × (Nat → Bool))) (w : World) (e : Ending) (w' : World) : Prop := ∃ ks ao c vs, IsOKeys l ks ∧ e = .returned (.slice ao (opL l ks).length c) ∧ SepW w w' [obVts (.slice ao (opL l ks).length c) 39 vs (opL l ks)]
set_option maxHeartbeats 4000000 in
theorem rising_any {D : Nat → Prop} {w : World} {b0 bl N : Nat} {ko : Option Nat} {A : LS} (h : LeaR w D b0 ko (some bl) N A) (hN : N ≤ 1000000) {K : List Int} (hK : K.length < 1000000) (hKs : ∀ a, (A.op a).isSome = true → a ∈ K) :
    Calls Try.prog 62 #[.map (some bl), .func (.func 63) #[] #[]] w (RetRi A.op w) := by
  obtain ⟨i0, hi, hz0, hz1, hz2⟩ := info_parts Try.voteInfo
  have H := Lib.hid h
  have HKs := Lib.hid hKs
  have hb1 := LR_lt h bl (Or.inr (Or.inr rfl))
  clear h hKs
  go_enter Try.func62, Try.ntmps62
  go_wp2_with fail
  refine (keysO_any (some bl) w).mono ?_
  rintro e w2 ⟨rfl, rfl⟩
  have hA := (Below.refl w.heap.size w).alloc (Nat.le_refl _) (.cells #[.map (some bl)] 114)
  have HA := Lib.hid hA
  have hRA := H.out.below hA (Nat.le_refl _)
  obtain ⟨f, hf, hks, hall⟩ := IsOKeys.of hRA
  obtain ⟨N', hN', hseq⟩ := keysO_stops Fence.wide 1 trivial rfl (Nat.le_refl _) w.heap.size bl N (w.alloc (.cells #[.map (some bl)] 114)) (by simp) (World.news_of_block (heap_alloc_new w _) 0 _ rfl) hf
  have HSo := Lib.hid (sortedU_any 93 #[.pointer (some ⟨w.heap.size, 0, none⟩)] (enters_of Try.func93 (by kernel_rfl) rfl) (AllKeys f) N' (by omega)
    (fun ss hs => Nat.lt_of_le_of_lt (nodup_le hs.1 (fun a ha => HKs.out a (hall ss hs a ha))) hK) _ hseq)
  have HKy := Lib.hid hks
  clear hA hRA hf hks hall hseq
  go_wp2_with fail
  refine HSo.out.mono ?_
  rintro e w2 ⟨v, ss, rfl, hS, hown2, hb2⟩
  have hisk := HKy.out _ hS.sorted
  have hlen : ss.length = (ss.mergeSort (fun x y => decide (x ≤ y))).length := by simp
  rw [hlen] at hown2
  generalize ss.mergeSort (fun x y => decide (x ≤ y)) = ks at *
  have hk50 : ks.length < 1000000 := Nat.lt_of_le_of_lt (nodup_le (hisk.1.imp (fun h => by omega)) (fun a ha => HKs.out a ((hisk.2 a).1 ha))) hK
  obtain ⟨ko, kc, hve, _, _⟩ := own_form hown2
  subst hve
  have hbw := HA.out.trans (hb2.mono (by simp))
  have HB2 := Lib.hid hbw
  have hsep : Sep w.heap.size w2 [obVts (.slice none 0 0) 39 [] [], obRow (.slice ko ks.length kc) 29 1 ks.length (u64s ks)] := by
      refine ⟨fun o ho => ?_, fun o ho => ?_, fun o ho k hk => ?_, ?_, hbw.size⟩
      · simp at ho; rcases ho with rfl | rfl
        · exact obVts_good ..
        · exact obRow_good ..
      · simp at ho; rcases ho with rfl | rfl
        · exact ⟨World.ownsRow_nil _ _ _ _, VtC.nil _, by intro u hu; cases hu⟩
        · exact hown2.weaken (Nat.zero_le _)
      · simp at ho; rcases ho with rfl | rfl
        · rcases hk with hk | ⟨u, hu, _⟩
          · cases hk
          · cases hu
        · have := (hown2.lt k hk).1; simp at this; omega
      · refine List.Pairwise.cons (fun x hx k hk => ?_) (List.pairwise_singleton _ _)
        rcases hk with hk | ⟨u, hu, _⟩
        · cases hk
        · cases hu
  have HSep := Lib.hid hsep
  have HIs := Lib.hid hisk
  clear hown2 hb2 hbw hsep hisk hS hlen HSo HKy
  go_wp2_with fail
  go_loopw [12, 5, 7] (fun i ov _ wr => ∃ (k : Nat) (vs : List Value) (ao : Option Addr) (c : Nat), k ≤ ks.length ∧ i = .int .i64 k ∧ ov = .slice ao (opL A.op (ks.take k)).length c ∧ Sep w.heap.size wr [obVts (.slice ao (opL A.op (ks.take k)).length c) 39 vs (opL A.op (ks.take k)), obRow (.slice ko ks.length kc) 29 1 ks.length (u64s ks)] ∧ Below w.heap.size w wr) (fun i _ _ _ => ks.length - (intOf i).toNat)
  case atStart => exact ⟨0, [], none, 0, by omega, rfl, rfl, HSep.out, HB2.out⟩
  case round =>
    clear HSep HB2
    obtain ⟨k, vs, ao, c, hk, rfl, rfl, hsep, hbw⟩ := hrel
    have HSk := Lib.hid hsep
    have HBk := Lib.hid hbw
    clear hsep hbw
    by_cases hlt : k < ks.length
    · have hki : (k : Int) < (ks.length : Int) := by omega
      obtain ⟨id, hid⟩ : ∃ id, ks[k]? = some id := ⟨_, List.getElem?_eq_getElem hlt⟩
      obtain ⟨⟨s, g⟩, hsl⟩ := Option.isSome_iff_exists.1 ((HIs.out.2 id).1 (List.mem_of_getElem? hid))
      have hsm := H.out.op.small id (s, g) hsl
      have hkown : World.ownsRow wr 0 29 1 (.slice ko ks.length kc) ks.length (u64s ks) := HSk.out.get 1 rfl
      obtain ⟨ka, kca, hke, _, _, hkx⟩ := SlR.of_own hkown
      simp only [List.length_map] at hke
      cases hke
      obtain ⟨kad, rfl, hkc⟩ := hkx k (.int .u64 id) (by rw [List.getElem?_map, hid]; rfl)
      have HTk := Lib.hid (opL_take hid hsl)
      have hR := H.out.below HBk.out (Nat.le_refl _)
      obtain ⟨lo, lc, _, hlk0, hsl2, hl1, _, _, _, hl2, hl3⟩ := hR.lookO (slot := id) hsm.1
      have hlk := hlk0 wr rfl
      rw [oOr_some hsl] at hlk hsl2 hl1 hl2
      simp only at hlk hsl2 hl1 hl2
      have hvl := opL_le A.op ks k
      have hk40 : (opL A.op (ks.take k)).length ≤ 1099511627776 := by omega
      have HSl2 := Lib.hid hsl2
      clear hkown hkx hR hlk0 hid hsl hvl hsl2
      go_wp2_with fail
      refine (openFn_any _ _ _ _ _ _ _).mono ?_
      rintro e w3 ⟨rfl, hb3⟩
      have HB3 := Lib.hid hb3
      have HS3 := Lib.hid (HSk.out.step hb3)
      have HCl := Lib.hid (lcopied_any (HSl2.out.below hb3 (Nat.le_refl _)) (by omega : s.val.length ≤ 1000000000))
      clear hb3
      go_wp2_with fail
      refine HCl.out.mono ?_
      rintro e w4 ⟨co, cc, rfl, hown4, hb4⟩
      have hs5 := HS3.out.new hb4 (obRow_good (.slice co s.val.length cc) 5 1 s.val.length (u8s s.val)) (hown4.weaken (Nat.zero_le _)) (fun q hq => (hown4.lt q hq).1)
      have HS5 := Lib.hid (hs5.front 1 rfl)
      have HB5 := Lib.hid ((HBk.out.trans (HB3.out.mono HBk.out.size)).trans (hb4.mono (Nat.le_trans HBk.out.size HB3.out.size)))
      have HO5 := Lib.hid ((HS5.out.get 0 rfl : (obVts (.slice ao (opL A.op (ks.take k)).length c) 39 vs (opL A.op (ks.take k))).inv _).1)
      have HU4 : Hid (∀ u ∈ (#[.int .u64 s.slot, .int .u64 s.ballot, .slice co s.val.length cc] : Array Value).toList, u.oneCell' = true) := Lib.hid (by intro u hu; simp at hu; rcases hu with rfl | rfl | rfl <;> rfl)
      clear hown4 hb4 hs5 HCl
      go_wp2_with (first
        | (at_builtin; (refine wpList_appS rfl (.tmp 16) (.tmp 23) 33 rfl 0 39 i0 _ 3 40 Try.underlying33 hi hz0 hz1 hz2 rfl (by decide) (by decide) rfl rfl (by simp) rfl HO5.out HU4.out hk40 (Nat.zero_le _) ?_)
           intro g7 cap7 w7 hown7 hg7 hor7
           have HOwn7 := Lib.hid hown7
           have HG7 := Lib.hid hg7
           have HOr7 := Lib.hid hor7
           clear hown7 hg7 hor7)
        | fail)
      obtain ⟨hsA, hkA⟩ := HS5.out.vtApp (g := g7) (cap := cap7) (s := s) HG7.out HOr7.out HOwn7.out
      have hll : (opL A.op (ks.take k)).length + 1 = (opL A.op (ks.take (k + 1))).length := by rw [HTk.out]; simp
      rw [hll] at hsA
      rw [← HTk.out] at hsA
      have HSA := Lib.hid hsA
      have HLL := Lib.hid hll
      have HBA := Lib.hid (HS5.out.belowAt HB5.out 0 rfl (hkA.mono (fun q _ hq => Or.inl hq)))
      clear hsA hkA hll
      go_roundw
      case rel => exact ⟨k + 1, _, _, _, by omega, by go_num, by rw [← HLL.out], HSA.out, HBA.out⟩
      case measure => simp [intOf]; omega
    · have hkl : k = ks.length := by omega
      have HS9 : Hid (Sep w.heap.size wr [obVts (.slice ao (opL A.op (ks.take k)).length c) 39 vs (opL A.op (ks.take k))]) := Lib.hid (HSk.out.sub (List.sublist_append_left [_] _))
      rw [hkl, List.take_length] at HS9 ⊢
      have hkd : decide ((k : Int) < (ks.length : Int)) = false := decide_eq_false (by omega)
      have HKl := Lib.hid hkl
      clear hkl
      go_wp2_with fail
      go_ret
      exact ⟨ks, ao, c, vs, HIs.out, rfl, ⟨HS9.out, HBk.out⟩⟩
theorem lopen_any {D : Nat → Prop} {w : World} {b0 bl N : Nat} {ko : Option Nat} {A : LS} (h : LeaR w D b0 ko (some bl) N A) (hN : N ≤ 1000000) {K : List Int} (hK : K.length < 1000000) (hKs : ∀ a, (A.op a).isSome = true → a ∈ K) :
    Calls Try.prog 45 #[.pointer (some ⟨b0, 0, none⟩)] w (RetRi A.op w) := by
  have HR := Lib.hid (rising_any h hN hK hKs)
  obtain ⟨⟨c0, c1, c2, c3, c4, c5, c6, c7⟩, _⟩ := h.cell
  clear h hKs
  go_enter Try.func45, Try.ntmps45
  go_wp2_with fail
  refine HR.out.mono ?_
  rintro e w1 ⟨ks, ao, c, vs, h1, rfl, h2⟩
  go_wp2_with fail
  go_ret
  exact ⟨ks, ao, c, vs, h1, rfl, h2⟩
end Go.Proofs.Ytjdjfhioobhcjaa

namespace Go.Proofs.Ytjdjfhioobhcjaa
open Go.ChangeShapes Go.WideShapes Go.ChangeAt Go.RowKit Go.Maps
set_option maxRecDepth 100000

theorem lacc_no {D : Nat → Prop} {w : World} {b0 N : Nat} {ko lo : Option Nat} {A : LS} (h : LeaR w D b0 ko lo N A) {node b s : Int} (hno : ¬ (A.stage = 2 ∧ b = A.ballot ∧ 0 ≤ node ∧ node < A.many)) :
    Calls Try.prog 39 #[.pointer (some ⟨b0, 0, none⟩), .int .i64 node, .int .u64 b, .int .u64 s] w fun e w' => e = .returned (.tuple #[.agg #[.int .u64 0, .int .u64 0, .slice none 0 0], .bool false]) ∧ Below w.heap.size w w' := by
  have hb1 := (Below.refl w.heap.size w).alloc (Nat.le_refl _) (.cells #[.int .u64 0, .int .u64 0, .slice none 0 0] 39)
  have HI := Lib.hid (lis_any (h.below hb1 (Nat.le_refl _)) 2 node b)
  have hd : decide (A.stage = 2 ∧ b = A.ballot ∧ 0 ≤ node ∧ node < A.many) = false := decide_eq_false hno
  rw [hd] at HI
  have HB1 := Lib.hid hb1
  clear h hno hd hb1
  go_enter Try.func39, Try.ntmps39
  go_wp2_with fail
  refine HI.out.mono ?_
  rintro e w1 ⟨rfl, rfl⟩
  go_wp2_with fail
  have hk := heap_alloc_new w (.cells #[.int .u64 0, .int .u64 0, .slice none 0 0] 39)
  have hb1 := HB1.out
  obtain ⟨W4, HW4⟩ : ∃ x, x = w.alloc (.cells #[.int .u64 0, .int .u64 0, .slice none 0 0] 39) := ⟨_, rfl⟩
  rw [← HW4] at hk hb1 ⊢
  have s0 : W4.cell? ⟨w.heap.size, 0, none⟩ = some (.int .u64 0) := World.news_of_block hk 0 _ rfl
  have s1 : W4.cell? ⟨w.heap.size, 1, none⟩ = some (.int .u64 0) := World.news_of_block hk 1 _ rfl
  have s2 : W4.cell? ⟨w.heap.size, 2, none⟩ = some (.slice none 0 0) := World.news_of_block hk 2 _ rfl
  refine bodyPost_ret (v := .tuple #[.agg #[.int .u64 0, .int .u64 0, .slice none 0 0], .bool false]) (by simp [results, Try.results39, go_sem, s0, s1, s2]) rfl ?_
  exact ⟨rfl, hb1⟩
set_option maxHeartbeats 1000000 in
theorem lacc_none {D : Nat → Prop} {w : World} {b0 bl N : Nat} {ko : Option Nat} {A : LS} (h : LeaR w D b0 ko (some bl) N A) {node b s : Int} (hyes : A.stage = 2 ∧ b = A.ballot ∧ 0 ≤ node ∧ node < A.many) (us : U1 s) (hn : A.op s = none) :
    Calls Try.prog 39 #[.pointer (some ⟨b0, 0, none⟩), .int .i64 node, .int .u64 b, .int .u64 s] w fun e w' => e = .returned (.tuple #[.agg #[.int .u64 0, .int .u64 0, .slice none 0 0], .bool false]) ∧ Below w.heap.size w w' := by
  have hb1 := (Below.refl w.heap.size w).alloc (Nat.le_refl _) (.cells #[.int .u64 0, .int .u64 0, .slice none 0 0] 39)
  have hR1 := h.below hb1 (Nat.le_refl _)
  have HI := Lib.hid (lis_any hR1 2 node b)
  have hd : decide (A.stage = 2 ∧ b = A.ballot ∧ 0 ≤ node ∧ node < A.many) = true := decide_eq_true hyes
  rw [hd] at HI
  obtain ⟨⟨c0, c1, c2, c3, c4, c5, c6, c7⟩, _⟩ := hR1.cell
  obtain ⟨lo, lc, hlk0, _, hsl2, _⟩ := hR1.lookO (slot := s) us
  have hlk := hlk0 _ rfl
  rw [hn] at hlk
  have e0 : oOr A s = (⟨0, 0, []⟩, fun _ => false) := by unfold oOr; rw [hn]; rfl
  rw [e0] at hlk
  simp only [msk_none, Option.isSome_none] at hlk
  have HB1 := Lib.hid hb1
  clear h hyes hd hb1 hR1 hlk0 hsl2 e0
  go_enter Try.func39, Try.ntmps39
  go_wp2_with fail
  refine HI.out.mono ?_
  rintro e w1 ⟨rfl, rfl⟩
  go_wp2_with fail
  have hk0 := heap_alloc_new w (.cells #[.int .u64 0, .int .u64 0, .slice none 0 0] 39)
  have hb2 := HB1.out.alloc (by simp) (.cells #[.int .u64 0, .int .u64 0, .slice lo 0 lc, .int .u32 0] 127)
  have hk := (Below.heap_alloc (w.alloc (.cells #[.int .u64 0, .int .u64 0, .slice none 0 0] 39)) (.cells #[.int .u64 0, .int .u64 0, .slice lo 0 lc, .int .u32 0] 127) w.heap.size (by simp)).trans hk0
  obtain ⟨W4, HW4⟩ : ∃ x, x = (w.alloc (.cells #[.int .u64 0, .int .u64 0, .slice none 0 0] 39)).alloc (.cells #[.int .u64 0, .int .u64 0, .slice lo 0 lc, .int .u32 0] 127) := ⟨_, rfl⟩
  rw [← HW4] at hk hb2 ⊢
  have s0 : W4.cell? ⟨w.heap.size, 0, none⟩ = some (.int .u64 0) := World.news_of_block hk 0 _ rfl
  have s1 : W4.cell? ⟨w.heap.size, 1, none⟩ = some (.int .u64 0) := World.news_of_block hk 1 _ rfl
  have s2 : W4.cell? ⟨w.heap.size, 2, none⟩ = some (.slice none 0 0) := World.news_of_block hk 2 _ rfl
  refine bodyPost_ret (v := .tuple #[.agg #[.int .u64 0, .int .u64 0, .slice none 0 0], .bool false]) (by simp [results, Try.results39, go_sem, s0, s1, s2]) rfl ?_
  exact ⟨rfl, hb2⟩
end Go.Proofs.Ytjdjfhioobhcjaa
