/-
  Plain: the rounds of three nodes, told as tables.
-/
import Derived.Test.YtgmdedkingampaaGreatCatQ
set_option linter.unusedVariables false
set_option linter.unusedSimpArgs false
namespace Go.Proofs.YtgmdedkingampaaGreat
open Go.ChangeShapes Go.WideShapes Go.ChangeAt Go.RowKit Go.Maps
set_option maxRecDepth 1000000

theorem ompty : U8 ([] : List Int) := fun z hz => by cases hz
theorem oPrep_ok {k : Nat} : OmOk 100 (oPrep k) := ⟨u1_32, u1_0, ompty, by show 0 ≤ 100; decide, ⟨by show (-9223372036854775808 : Int) ≤ 7; decide, by show (7 : Int) ≤ 9223372036854775807; decide⟩⟩
theorem oProm_ok : OmOk 100 oProm := ⟨u1_32, u1_0, putV_U8 (fun v hv => by cases hv), by decide, by decide⟩
theorem oBeat_ok {k n : Nat} (h : n ≤ 100) : OmOk 100 (oBeat k n) := ⟨u1_32, by unfold U1 oBeat; simp; omega, ompty, by show 0 ≤ 100; decide, ⟨by show (-9223372036854775808 : Int) ≤ 18; decide, by show (18 : Int) ≤ 9223372036854775807; decide⟩⟩
theorem oAcc_ok {k s : Nat} {v : List Int} (h : s ≤ 100) (hv : U8 v ∧ v.length ≤ 30) : OmOk 100 (oAcc k s v) := ⟨u1_32, by unfold U1 oAcc; simp; omega, hv.1, by show v.length ≤ 100; omega, ⟨by show (-9223372036854775808 : Int) ≤ 9; decide, by show (9 : Int) ≤ 9223372036854775807; decide⟩⟩
theorem oAcd_ok {s : Nat} (h : s ≤ 100) : OmOk 100 (oAcd s) := ⟨u1_32, by unfold U1 oAcd; simp; omega, ompty, by show 0 ≤ 100; decide, ⟨by show (-9223372036854775808 : Int) ≤ 10; decide, by show (10 : Int) ≤ 9223372036854775807; decide⟩⟩
theorem oLrn_ok {k s : Nat} {v : List Int} (h : s ≤ 100) (hv : U8 v ∧ v.length ≤ 30) : OmOk 100 (oLrn k s v) := ⟨u1_0, by unfold U1 oLrn; simp; omega, hv.1, by show v.length ≤ 100; omega, ⟨by show (-9223372036854775808 : Int) ≤ 12; decide, by show (12 : Int) ≤ 9223372036854775807; decide⟩⟩
theorem oCat_ok {n : Nat} (h : n ≤ 100) : OmOk 100 (oCat n) := ⟨u1_0, by unfold U1 oCat; simp; omega, ompty, by show 0 ≤ 100; decide, ⟨by show (-9223372036854775808 : Int) ≤ 13; decide, by show (13 : Int) ≤ 9223372036854775807; decide⟩⟩
theorem lrnO_ok {k : Nat} : ∀ (l : List (List Int)) (a : Nat), a + l.length ≤ 100 → (∀ v ∈ l, U8 v ∧ v.length ≤ 30) → ∀ o ∈ lrnO k a l, OmOk 100 o
  | [], a, _, _, o, ho => by cases ho
  | v :: r, a, ha, hv, o, ho => by
    have hl : (v :: r).length = r.length + 1 := rfl
    rcases List.mem_cons.1 ho with rfl | ho
    · exact oLrn_ok (by omega) (hv v (List.mem_cons_self ..))
    · exact lrnO_ok r (a + 1) (by omega) (fun w hw => hv w (List.mem_cons_of_mem _ hw)) o ho
theorem lrnO_len (k : Nat) : ∀ (l : List (List Int)) (a : Nat), (lrnO k a l).length = l.length
  | [], a => rfl
  | v :: r, a => by show (lrnO k (a + 1) r).length + 1 = _; rw [lrnO_len k r]; rfl
theorem St3.ok {P0 P1 P2 : Nd → Prop} {ms0 ms : List (Int × Om)} {xs : List Nd} (h : St3 P0 P1 P2 ms0 xs ms) (h0 : ∀ x, P0 x → NdOk x 100 ∧ TkOk x) (h1 : ∀ x, P1 x → NdOk x 100 ∧ TkOk x) (h2 : ∀ x, P2 x → NdOk x 100 ∧ TkOk x)
    (hl : ms0.length ≤ 400) (hm : ∀ p ∈ ms0, OmOk 100 p.2) : OkSt 100 3 xs ms := by
  obtain ⟨x0, x1, x2, rfl, g0, g1, g2, rfl⟩ := h
  refine ⟨rfl, hl, fun x hx _ => ?_, hm⟩
  simp at hx
  rcases hx with rfl | rfl | rfl
  · exact h0 _ g0
  · exact h1 _ g1
  · exact h2 _ g2
/-- Behind n values: the second node knows them all, the third one j. -/
def Ph (V : List (List Int)) (n : Nat) (a b : Int) (j : Nat) (ms0 : List (Int × Om)) : List Nd → List (Int × Om) → Prop :=
  St3 (Ld V (380 - 4 * n) (5 * n) n n 0 none) (Fo V false 1 (380 - 4 * n) (2 * n) n a) (Fo V false 2 (380 - 2 * n - 2 * j) (n + j) j b) ms0
def beats (n : Nat) : List (Int × Om) := [(0, oBeat 1 n), (0, oBeat 2 n)]
/-- What is still under way for the third node, k of them told. -/
def lrns (V : List (List Int)) (n j k : Nat) : List (Int × Om) := (lrnO 2 (j + k) (((V.take n).drop (j + k)).take (8 - k))).map (fun o => ((0 : Int), o))
def ldT (V : List (List Int)) (n j : Nat) : Nat → List Nd → List (Int × Om) → Prop
  | 0 => Ph V n 4 6 j []
  | 1 => Ph V n 4 6 j (beats n)
  | 2 => Ph V n 3 6 j (beats n)
  | 3 => Ph V n 3 5 j (beats n)
  | _ => fun _ _ => False
def ldD (V : List (List Int)) (n j : Nat) : Nat → List Nd → List (Int × Om) → Prop
  | 0 => Ph V n 3 5 j (beats n)
  | 1 => Ph V n 4 5 j [(0, oBeat 2 n)]
  | 2 => Ph V n 4 6 j (if n ≤ j then [] else [(2, oCat j)])
  | k + 3 => fun xs ms => (j < n ∧ k ≤ 8 ∧ j + k ≤ n) ∧ Ph V n 4 6 (j + k) (lrns V n j k) xs ms
structure Vs (V : List (List Int)) (n : Nat) : Prop where
  len : n ≤ V.length
  few : n ≤ 20
  ok : ∀ v ∈ V.take n, U8 v ∧ v.length ≤ 30
variable {V : List (List Int)} {n j k : Nat} {xs xs' : List Nd} {ms ms' : List (Int × Om)} {x y : Nd} {outs : List Om}
theorem Ph.ok {a b : Int} {ms0 : List (Int × Om)} (h : Ph V n a b j ms0 xs ms) (hn : n ≤ 20) (hj : j ≤ n) (ha : 1 ≤ a) (hb : 1 ≤ b) (hl : ms0.length ≤ 400) (hm : ∀ p ∈ ms0, OmOk 100 p.2) : OkSt 100 3 xs ms :=
  St3.ok h (fun x hx => hx.ok (by omega) (by omega) (fun v g e => by cases e)) (fun x hx => hx.ok (by decide) (by omega) (by omega) ha) (fun x hx => hx.ok (by decide) (by omega) (by omega) hb) hl hm
theorem beats_ok (hn : n ≤ 20) : ∀ p ∈ beats n, OmOk 100 p.2 := by
  intro p hp
  simp [beats] at hp
  rcases hp with rfl | rfl <;> exact oBeat_ok (by omega)
theorem lrns_ok (hv : Vs V n) (h : j + k ≤ n) : (∀ p ∈ lrns V n j k, OmOk 100 p.2) ∧ (lrns V n j k).length ≤ 8 := by
  have hn := hv.len
  have hf := hv.few
  refine ⟨fun p hp => ?_, ?_⟩
  · obtain ⟨o, ho, rfl⟩ := List.mem_map.1 hp
    refine lrnO_ok _ _ ?_ (fun v hv' => hv.ok v (List.mem_of_mem_drop (List.mem_of_mem_take hv'))) o ho
    rw [List.length_take, List.length_drop, List.length_take]
    omega
  · unfold lrns
    rw [List.length_map, lrnO_len, List.length_take]
    omega
theorem ldT_ok (hv : Vs V n) (hj : j ≤ n) {i : Nat} (h : ldT V n j i xs ms) : OkSt 100 3 xs ms := by
  have hf := hv.few
  match i, h with
  | 0, h => exact Ph.ok h hf hj (by decide) (by decide) (by decide) (fun p hp => by cases hp)
  | 1, h => exact Ph.ok h hf hj (by decide) (by decide) (by show 2 ≤ 400; decide) (beats_ok hf)
  | 2, h => exact Ph.ok h hf hj (by decide) (by decide) (by show 2 ≤ 400; decide) (beats_ok hf)
  | 3, h => exact Ph.ok h hf hj (by decide) (by decide) (by show 2 ≤ 400; decide) (beats_ok hf)
theorem ldD_ok (hv : Vs V n) (hj : j ≤ n) {i : Nat} (h : ldD V n j i xs ms) : OkSt 100 3 xs ms := by
  have hf := hv.few
  match i, h with
  | 0, h => exact Ph.ok h hf hj (by decide) (by decide) (by show 2 ≤ 400; decide) (beats_ok hf)
  | 1, h => exact Ph.ok h hf hj (by decide) (by decide) (by show 1 ≤ 400; decide) (fun p hp => by rw [List.mem_singleton.1 hp]; exact oBeat_ok (by omega))
  | 2, h =>
    refine Ph.ok h hf hj (by decide) (by decide) (by split <;> simp) (fun p hp => ?_)
    split at hp
    · cases hp
    · rw [List.mem_singleton.1 hp]; exact oCat_ok (by omega)
  | i + 3, h =>
    obtain ⟨h1, h2⟩ := h
    have h3 := lrns_ok (k := i) hv h1.2.2
    exact Ph.ok h2 hf h1.2.2 (by decide) (by decide) (by omega) h3.1
theorem ldT_step (hv : Vs V n) (hj : j ≤ n) {i : Nat} (h : ldT V n j i xs ms) (hf : ∀ z ∈ xs, NdFacts z) (hx : xs[i]? = some x) (ht : TickR x y outs) : ldT V n j (i + 1) (xs.set i y) (sendO i outs ms) := by
  match i, h, hx with
  | 0, h, hx => exact St3.tick0 h hf hx ht (out0 := [oBeat 1 n, oBeat 2 n]) (fun x y outs hx hf ht => Ld.tick hx hv.len hf ht) (by show 0 + 2 ≤ 400; decide)
  | 1, h, hx => exact St3.tick1 h hf hx ht (out0 := []) (fun x y outs hx hf ht => Fo.tick hx (by decide) ht) (by show 2 + 0 ≤ 400; decide)
  | 2, h, hx => exact St3.tick2 h hf hx ht (out0 := []) (fun x y outs hx hf ht => Fo.tick hx (by decide) ht) (by show 2 + 0 ≤ 400; decide)
  | 3, h, hx =>
    obtain ⟨x0, x1, x2, rfl, _⟩ := h
    cases hx
theorem lrns_more (hv : Vs V n) (h : j + k < n) (hk : k < 8) : ∃ v, V[j + k]? = some v ∧ (U8 v ∧ v.length ≤ 30) ∧ lrns V n j k = (0, oLrn 2 (j + k) v) :: lrns V n j (k + 1) := by
  have hn := hv.len
  have hlt : j + k < (V.take n).length := by rw [List.length_take]; omega
  have e1 : (V.take n)[j + k]? = V[j + k]? := List.getElem?_take_of_lt h
  refine ⟨(V.take n)[j + k], by rw [← e1, List.getElem?_eq_getElem hlt], hv.ok _ (List.getElem_mem hlt), ?_⟩
  unfold lrns
  rw [List.drop_eq_getElem_cons hlt, show 8 - k = (8 - (k + 1)) + 1 by omega, List.take_succ_cons]
  rfl
theorem lrns_end (h : j + k = n ∨ k = 8) : lrns V n j k = [] := by
  unfold lrns
  rcases h with h | h
  · rw [List.drop_of_length_le (by rw [List.length_take]; omega)]; simp [lrnO]
  · rw [h]; simp [lrnO]
theorem ldD_step (hv : Vs V n) (hj : j ≤ n) {i : Nat} (h : ldD V n j i xs ms) (hm : ms ≠ []) (hf : ∀ z ∈ xs, NdFacts z) (hd : DelR xs ms 0 false xs' ms') : ldD V n j (i + 1) xs' ms' := by
  have hn := hv.len
  match i, h with
  | 0, h =>
    exact St3.del1 h hd hf rfl (out0 := []) (fun x y outs hx hf hh => by
      obtain ⟨h1, h2⟩ := Fo.beat hx (by decide) hn hf hh
      rw [if_pos (Nat.le_refl _)] at h2
      exact ⟨h1, h2⟩) (by show 1 + 0 ≤ 400; decide)
  | 1, h =>
    have h9 := St3.del2 h hd hf rfl (out0 := if n ≤ j then [] else [oCat j]) (fun x y outs hx hf hh => Fo.beat hx (by decide) (by omega) hf hh) (by split <;> simp)
    have e : ([] ++ (if n ≤ j then [] else [oCat j]).map (fun o => ((2 : Int), o)) : List (Int × Om)) = if n ≤ j then [] else [(2, oCat j)] := by split <;> rfl
    rw [e] at h9
    exact h9
  | 2, h =>
    by_cases hnj : n ≤ j
    · unfold ldD at h
      rw [if_pos hnj] at h
      obtain ⟨x0, x1, x2, rfl, _, _, _, e⟩ := h
      exact absurd e hm
    · unfold ldD at h
      rw [if_neg hnj] at h
      refine ⟨⟨by omega, Nat.zero_le _, by omega⟩, ?_⟩
      refine St3.del0 h hd hf rfl (out0 := lrnO 2 j (((V.take n).drop j).take 8)) (fun x y outs hx hf hh => ?_) (by rw [lrnO_len, List.length_take]; simp; omega)
      obtain ⟨rfl, h2⟩ := Ld.catch (k := 2) hx (Or.inr rfl) hj hn hh
      exact ⟨hx, h2⟩
  | i + 3, h =>
    obtain ⟨h1, h2⟩ := h
    by_cases he : j + i = n ∨ i = 8
    · rw [lrns_end he] at h2
      obtain ⟨x0, x1, x2, rfl, _, _, _, e⟩ := h2
      exact absurd e hm
    · obtain ⟨v, hv1, hv2, e⟩ := lrns_more (j := j) (k := i) hv (by omega) (by omega)
      rw [e] at h2
      refine ⟨⟨h1.1, by omega, by omega⟩, ?_⟩
      have h9 := St3.del2 h2 hd hf rfl (out0 := []) (fun x y outs hx hf hh => Fo.lrn hx hv2.2 hv1 (by have := hv.few; omega) (by have := hv.few; omega) hh) (by have := (lrns_ok (j := j) (k := i + 1) hv (by omega)).2; simp; omega)
      rw [List.map_nil, List.append_nil] at h9
      have e2 : 380 - 2 * n - 2 * (j + i) - 2 = 380 - 2 * n - 2 * (j + (i + 1)) := by omega
      unfold Ph
      rw [← e2]
      exact h9
theorem ldD_end (hv : Vs V n) (hj : j ≤ n) {i : Nat} (h : ldD V n j i xs ms) (he : i = 400 ∨ ms = []) : Ph V n 4 6 (min n (j + 8)) [] xs ms := by
  match i, h with
  | 0, h =>
    obtain ⟨x0, x1, x2, rfl, _, _, _, e⟩ := h
    rcases he with he | he
    · cases he
    · rw [e] at he; cases he
  | 1, h =>
    obtain ⟨x0, x1, x2, rfl, _, _, _, e⟩ := h
    rcases he with he | he
    · cases he
    · rw [e] at he; cases he
  | 2, h =>
    by_cases hnj : n ≤ j
    · unfold ldD at h
      rw [if_pos hnj] at h
      rw [show min n (j + 8) = j by omega]
      exact h
    · unfold ldD at h
      rw [if_neg hnj] at h
      obtain ⟨x0, x1, x2, rfl, _, _, _, e⟩ := h
      rcases he with he | he
      · cases he
      · rw [e] at he; cases he
  | i + 3, h =>
    obtain ⟨h1, h2⟩ := h
    by_cases hee : j + i = n ∨ i = 8
    · rw [lrns_end hee] at h2
      rw [show min n (j + 8) = j + i by omega]
      exact h2
    · obtain ⟨v, hv1, hv2, e⟩ := lrns_more (j := j) (k := i) hv (by omega) (by omega)
      rw [e] at h2
      obtain ⟨x0, x1, x2, rfl, _, _, _, e⟩ := h2
      rcases he with he | he
      · omega
      · rw [e] at he; cases he
end Go.Proofs.YtgmdedkingampaaGreat
