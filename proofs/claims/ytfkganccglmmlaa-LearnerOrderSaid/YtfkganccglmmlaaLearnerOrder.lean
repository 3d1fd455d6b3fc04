/-
  LearnerOrder: in whatever order values come, and however often, the same is known.
-/
import Derived.Test.YtfkganccglmmlaaLrnW
import Derived.Test.YtfkganccglmmlaaFrame
namespace Go.Proofs.Ytfkganccglmmlaa
open Go.ChangeShapes Go.WideShapes Go.ChangeAt Go.RowKit Go.Maps

theorem Try.boolInfo : (Try.prog.info? 4).map (fun i => (i.zero, i.size, i.bytes)) = some (some (.bool false), 1, 1) := by kernel_rfl
abbrev bools (xs : List Bool) : List Value := xs.map Value.bool
def atB (xs : List Bool) (i : Nat) : Bool := xs.getD i false
theorem atB_set (F : List Bool) (k j : Nat) (hl : k < F.length) : atB (F.set k true) j = if j = k then true else atB F j := by
  unfold atB
  rw [List.getD, List.getD, List.getElem?_set]
  by_cases e : j = k
  · subst e; rw [if_pos rfl, if_pos rfl, if_pos hl]; rfl
  · rw [if_neg (by omega), if_neg e]
/-- What is known is what was noted. -/
def KnownR (m : Kn) (B : List Bool) (L : List (List Int)) : Prop := B.length = L.length ∧ (∀ (j : Nat) xs, L[j]? = some xs → m j = if atB B j then some xs else none) ∧ ∀ j : Int, m j ≠ none → 0 ≤ j ∧ j < L.length
theorem KnownR.start (L : List (List Int)) : KnownR (fun _ => none) (List.replicate L.length false) L := by
  refine ⟨by simp, fun j xs h => ?_, fun j h => absurd rfl h⟩
  have : atB (List.replicate L.length false) j = false := by
    unfold atB; rw [List.getD, List.getElem?_replicate]; split <;> rfl
  rw [this]; rfl
theorem KnownR.put {m : Kn} {B : List Bool} {L : List (List Int)} (h : KnownR m B L) (k : Nat) {xs : List Int} (hk : L[k]? = some xs) : KnownR (putK m k xs) (B.set k true) L := by
  have hlt : k < L.length := (List.getElem?_eq_some_iff.1 hk).1
  refine ⟨by simp [h.1], fun j ys hj => ?_, fun j hj => ?_⟩
  · rw [atB_set _ _ _ (by rw [h.1]; exact hlt)]
    by_cases e : j = k
    · subst e; rw [if_pos rfl, putK_self, if_pos rfl]; rw [hk] at hj; rw [← hj]
    · rw [if_neg e, putK_ne _ _ _ _ (by omega)]; exact h.2.1 j ys hj
  · by_cases e : j = k
    · subst e; omega
    · rw [putK_ne _ _ _ _ e] at hj; exact h.2.2 j hj
theorem KnownR.again {m : Kn} {B : List Bool} {L : List (List Int)} (h : KnownR m B L) (k : Nat) (hk : atB B k = true) : KnownR m (B.set k true) L := by
  have hlt : k < B.length := by
    rcases Nat.lt_or_ge k B.length with h | h
    · exact h
    · simp [atB, List.getElem?_eq_none h] at hk
  refine ⟨by simp [h.1], fun j ys hj => ?_, h.2.2⟩
  rw [atB_set _ _ _ hlt]
  by_cases e : j = k
  · subst e; rw [if_pos rfl, h.2.1 j ys hj, hk]
  · rw [if_neg e]; exact h.2.1 j ys hj

def topF (B : List Bool) : Nat → Nat
  | 0 => 0
  | k + 1 => if atB B k then k + 1 else topF B k
def nextF (B : List Bool) : Nat → Nat
  | 0 => 0
  | k + 1 => if atB B k && nextF B k == k then k + 1 else nextF B k
def gapF (B : List Bool) : Nat → Nat
  | 0 => 0
  | k + 1 => if atB B k then gapF B k else gapF B k + 1
theorem topF_le (B : List Bool) (k : Nat) : topF B k ≤ k := by
  induction k with
  | zero => exact Nat.le_refl _
  | succ k ih => unfold topF; split <;> omega
theorem nextF_le (B : List Bool) (k : Nat) : nextF B k ≤ k := by
  induction k with
  | zero => exact Nat.le_refl _
  | succ k ih => unfold nextF; split <;> omega
theorem gapF_le (B : List Bool) (k : Nat) : gapF B k ≤ k := by
  induction k with
  | zero => exact Nat.le_refl _
  | succ k ih => unfold gapF; split <;> omega
theorem topF_all (B : List Bool) (k j : Nat) (hj : j < k) (hb : atB B j = true) : j < topF B k := by
  induction k with
  | zero => omega
  | succ k ih =>
    unfold topF
    by_cases h : atB B k = true
    · rw [if_pos h]; omega
    · rw [if_neg h]
      have : j ≠ k := fun e => h (e ▸ hb)
      exact ih (by omega)
theorem topF_last (B : List Bool) (k : Nat) : topF B k = 0 ∨ atB B (topF B k - 1) = true := by
  induction k with
  | zero => exact Or.inl rfl
  | succ k ih =>
    unfold topF
    by_cases h : atB B k = true
    · rw [if_pos h]; right; simpa using h
    · rw [if_neg h]; exact ih
theorem nextF_all (B : List Bool) (k j : Nat) (hj : j < nextF B k) : atB B j = true := by
  induction k with
  | zero => simp [nextF] at hj
  | succ k ih =>
    unfold nextF at hj
    by_cases h : (atB B k && nextF B k == k) = true
    · rw [if_pos h] at hj
      simp only [Bool.and_eq_true, beq_iff_eq] at h
      by_cases e : j = k
      · rw [e]; exact h.1
      · exact ih (by omega)
    · rw [if_neg h] at hj; exact ih hj
theorem nextF_end (B : List Bool) (k : Nat) (h : nextF B k < k) : atB B (nextF B k) = false := by
  induction k with
  | zero => omega
  | succ k ih =>
    unfold nextF at h ⊢
    by_cases hc : (atB B k && nextF B k == k) = true
    · rw [if_pos hc] at h; omega
    · rw [if_neg hc] at h ⊢
      have := nextF_le B k
      by_cases e : nextF B k = k
      · rw [e]
        cases hb : atB B k with
        | false => rfl
        | true => exact absurd (by rw [hb, e]; simp) hc
      · exact ih (by omega)
theorem KnownR.at {m : Kn} {B : List Bool} {L : List (List Int)} (h : KnownR m B L) (j : Nat) (hj : j < L.length) : (m j).isSome = atB B j := by
  rw [h.2.1 j _ (List.getElem?_eq_getElem hj)]
  cases atB B j <;> rfl
theorem KnownR.top {m : Kn} {B : List Bool} {L : List (List Int)} (h : KnownR m B L) (hL : L.length ≤ 1000) : IsTop m (topF B L.length) := by
  have hle := topF_le B L.length
  refine ⟨by omega, by omega, fun j hj => ?_, ?_⟩
  · obtain ⟨h0, h1⟩ := h.2.2 j hj
    obtain ⟨k, rfl⟩ := Int.eq_ofNat_of_zero_le h0
    have hb : atB B k = true := by
      rw [← h.at k (by omega)]
      cases hk : m k with
      | none => exact absurd hk hj
      | some _ => rfl
    have := topF_all B L.length k (by omega) hb
    omega
  · rcases topF_last B L.length with h1 | h1
    · left; omega
    · by_cases h0 : topF B L.length = 0
      · left; omega
      · right
        intro hn
        have := h.at (topF B L.length - 1) (by omega)
        rw [h1, show ((topF B L.length - 1 : Nat) : Int) = (topF B L.length : Int) - 1 by omega, hn] at this
        cases this
theorem KnownR.next {m : Kn} {B : List Bool} {L : List (List Int)} (h : KnownR m B L) : IsNext m (nextF B L.length) := by
  have hle := nextF_le B L.length
  refine ⟨by omega, fun j h0 h1 hn => ?_, ?_⟩
  · obtain ⟨k, rfl⟩ := Int.eq_ofNat_of_zero_le h0
    have := h.at k (by omega)
    rw [nextF_all B L.length k (by omega), show ((k : Nat) : Int) = Int.ofNat k from rfl] at this
    have hn' : m (k : Int) = none := hn
    have h2 := h.at k (by omega)
    rw [nextF_all B L.length k (by omega), hn'] at h2
    cases h2
  · by_cases e : nextF B L.length < L.length
    · have h2 := h.at _ e
      rw [nextF_end B _ e] at h2
      cases hk : m (nextF B L.length) with
      | none => rfl
      | some _ => rw [hk] at h2; cases h2
    · cases hk : m (nextF B L.length) with
      | none => rfl
      | some _ =>
        have := (h.2.2 _ (by rw [hk]; simp)).2
        omega
theorem unk_append (m : Kn) (x : Int) (a b : Nat) : unk m x (a + b) = unk m x a ++ unk m (x + a) b := by
  unfold unk
  rw [List.range_add, List.map_append, List.filter_append, List.map_map]
  congr 3
  funext i
  simp; omega
theorem unk_known (m : Kn) (d : Nat) (h : ∀ j : Nat, j < d → m j ≠ none) : unk m 0 d = [] := by
  induction d with
  | zero => rfl
  | succ d ih =>
    cases hm : m (d : Int) with
    | none => exact absurd hm (h d (by omega))
    | some xs =>
      rw [unk_miss (xs := xs) (by rw [← hm]; congr 1; omega)]
      exact ih (fun j hj => h j (by omega))
theorem KnownR.unkLen {m : Kn} {B : List Bool} {L : List (List Int)} (h : KnownR m B L) (d : Nat) (hd : d ≤ L.length) : (unk m 0 d).length = gapF B d := by
  induction d with
  | zero => rfl
  | succ d ih =>
    have h1 := h.at d (by omega)
    unfold gapF
    cases hm : m (d : Int) with
    | none =>
      rw [hm] at h1
      rw [unk_hit (by rw [show (0 : Int) + d = d by omega]; exact hm), List.length_append, ih (by omega), ← h1]; rfl
    | some xs =>
      rw [hm] at h1
      rw [unk_miss (xs := xs) (by rw [show (0 : Int) + d = d by omega]; exact hm), ih (by omega), ← h1]; rfl
theorem KnownR.gaps {m : Kn} {B : List Bool} {L : List (List Int)} (h : KnownR m B L) (hL : L.length ≤ 1000) :
    ((unk m (nextF B L.length) ((topF B L.length : Int) - (nextF B L.length : Int)).toNat).take (1000 : Int).toNat).length = gapF B (topF B L.length) := by
  have hnt := next_le_top h.next (h.top hL)
  have hle := topF_le B L.length
  rw [← h.unkLen _ hle]
  have e : topF B L.length = nextF B L.length + ((topF B L.length : Int) - (nextF B L.length : Int)).toNat := by omega
  generalize hD : ((topF B L.length : Int) - (nextF B L.length : Int)).toNat = D at *
  rw [e, unk_append, unk_known m _ (fun j hj => h.next.2.1 j (by omega) (by omega)), List.nil_append]
  have := unk_len m (nextF B L.length) D
  rw [show (0 : Int) + (nextF B L.length : Nat) = (nextF B L.length : Int) by omega, List.take_of_length_le (by simp; omega)]

set_option maxRecDepth 100000 in
set_option maxHeartbeats 2000000 in
theorem learnerOrder_in {v vo : Value} {L : List (List Int)} {ord : List Int} {W : World} (hv : RowsK W .u8 v L) (hu : ∀ r ∈ L, U8 r) (ho : SlR W vo (u8s ord)) (uo : U8 ord) (hL0 : 0 < L.length) (hL : L.length ≤ 20) (lo : ord.length ≤ 100) :
    Calls Try.prog 4 #[v, vo] W fun e W' => e = .returned (.bool true) ∧ Below W.heap.size W W' := by
  have HV := Lib.hid hv
  have HOr := Lib.hid ho
  have HU := Lib.hid hu
  obtain ⟨va, vc, rfl, hvc, hvm, _⟩ := hv.row
  obtain ⟨oa, oc, rfl, hoc, hom, _⟩ := ho.intsAt
  obtain ⟨i0, hi, hz0, hz1, hz2⟩ := info_parts Try.boolInfo
  have hL0i : (0 : Int) < (L.length : Int) := by omega
  clear hu
  go_enter Try.func4, Try.ntmps4
  go_wp2_with (go_at_call 7; refine (awake_any W).mono ?_; rintro e w1 ⟨rfl, hb1⟩; have hb1 := Lib.hid hb1)
  refine (new_lw w1).mono ?_
  rintro e w2 ⟨rfl, h2⟩
  have H2 := Lib.hid h2
  have HS := Lib.hid (HOr.out.below hb1.out (Nat.le_refl _))
  have HR := Lib.hid (HV.out.below hb1.out (Nat.le_refl _))
  have hsz := H2.out.size
  clear h2
  go_wp2_with (at_make; refine wpList_make_full _ rfl _ _ 46 rfl w2.heap.size 4 i0 (.bool false) 1 Try.underlying46 hi hz0 hz1 _ _ _ _ L.length rfl rfl rfl rfl (by rw [hz2]; omega) (by unfold maxLen; omega) (Nat.le_refl _) ?_; intro w3 hown hg; have hown := Lib.hid hown; have hg := Lib.hid hg)
  have hF : (madeCells (Value.bool false).cells (L.length * 1)).toList = bools (List.replicate L.length false) := by
    apply List.ext_getElem <;> simp [madeCells, Value.cells, Nat.mod_one]
  rw [hF] at hown
  have H3 := Lib.hid (H2.out.step ((Below.refl _ _).grown hg.out (Nat.le_refl _) (by simp)))
  clear hF hg H2
  go_loopw [9, 10, 11] (fun i _ _ wr => ∃ (j : Nat) (n : Nat) (m : Kn) (B : List Bool), j ≤ ord.length ∧ i = .int .i64 j ∧ n ≤ j ∧ LW w1 wr n m ∧ KnownR m B L ∧ (∀ k : Nat, atB B k = true → ∀ r, L[k]? = some r → r.length ≤ 40) ∧ wr.ownsRow w2.heap.size 4 1 (.slice (some ⟨w2.heap.size, 0, none⟩) L.length L.length) L.length (bools B)) (fun i _ _ _ => ord.length - (intOf i).toNat)
  case atStart => exact ⟨0, 0, fun _ => none, List.replicate L.length false, by omega, rfl, by omega, H3.out, KnownR.start L, (fun k hk => by
    have : atB (List.replicate L.length false) k = false := by unfold atB; rw [List.getD, List.getElem?_replicate]; split <;> rfl
    rw [this] at hk; cases hk), hown.out⟩
  case round =>
    obtain ⟨j, n, m, B, hj, rfl, hnj, hlw, hK, h40, hown⟩ := hrel
    have HL := Lib.hid hlw
    have HK := Lib.hid hK
    have H40 := Lib.hid h40
    have HO := Lib.hid hown
    have hwz := hlw.size
    clear hlw hK h40 hown
    by_cases hlt : j < ord.length
    · obtain ⟨ao', c', hv', _, _, hx⟩ := (HS.out.below HL.out.below (Nat.le_refl _)).intsAt
      cases hv'
      obtain ⟨ad, rfl, hcell⟩ := hx j hlt
      have hxb : 0 ≤ atI ord j ∧ atI ord j ≤ 255 := by
        have := uo ord[j] (List.getElem_mem hlt)
        simpa [atI, hlt] using this
      clear hx
      generalize atI ord j = y at *
      have hcella : j = 0 → wr.cell? ad = some (.int .u8 y) := fun e => by subst e; rw [show ad.add (0 : Nat) = ad by cases ad; rfl] at hcell; exact hcell
      have hne0 : ((L.length : Int) == 0) = false := by rw [beq_eq_false_iff_ne]; omega
      have hk0 : 0 ≤ y % (L.length : Int) := Int.emod_nonneg _ (by omega)
      have hk1 : y % (L.length : Int) < L.length := Int.emod_lt_of_pos _ (by omega)
      obtain ⟨k, hk⟩ : ∃ k : Nat, y % (L.length : Int) = (k : Int) := Int.eq_ofNat_of_zero_le hk0
      have hkl : k < L.length := by omega
      obtain ⟨va', vc', hv', _, _, hrow⟩ := (HR.out.below HL.out.below (Nat.le_refl _)).row
      cases hv'
      obtain ⟨a, u, rfl, hcu, hsu⟩ := hrow k hkl
      have hcu0 : k = 0 → wr.cell? a = some u := fun e => by subst e; rw [show a.add (0 : Nat) = a by cases a; rfl] at hcu; exact hcu
      obtain ⟨xs, hxs⟩ : ∃ xs, xs = L[k] := ⟨_, rfl⟩
      have hux : U8 xs := by rw [hxs]; exact HU.out _ (List.getElem_mem hkl)
      have hLk : L[k]? = some xs := by rw [hxs]; exact List.getElem?_eq_getElem hkl
      rw [← hxs] at hsu
      clear hxs hrow
      have HSU := Lib.hid hsu
      obtain ⟨ua, uc, rfl, huc, hum, _⟩ := hsu.intsAt
      have HUX := Lib.hid hux
      have HLk := Lib.hid hLk
      clear hsu hux hLk
      by_cases hx40 : xs.length ≤ 40
      · have hkb := HK.out.2.1 k xs HLk.out
        have hcB : ∀ w' : World, w'.ownsRow w2.heap.size 4 1 (.slice (some ⟨w2.heap.size, 0, none⟩) L.length L.length) L.length (bools B) → w'.cell? ⟨w2.heap.size, k, none⟩ = some (.bool (atB B k)) ∧ w'.frozen? ⟨w2.heap.size, k, none⟩ = false := fun w' h => by
          refine ⟨?_, h.frozenAt _⟩
          have hl := HK.out.1
          rw [h.cellAt _ (by omega), List.getElem?_map]
          simp [atB, List.getElem?_eq_getElem (show k < B.length by omega)]
        have HCB := Lib.hid hcB
        have hset : (bools B).set k (.bool true) = bools (B.set k true) := by simp [bools, List.map_set]
        have HSet := Lib.hid hset
        clear hcB hset
        cases hb : atB B k with
        | false =>
          rw [hb, if_neg (by decide)] at hkb
          have HKb := Lib.hid hkb
          have Hb := Lib.hid hb
          clear hkb hb
          go_wp2_with fail
          refine (HL.out.learn (slot := k) HSU.out HUX.out (by omega) (by omega) (by omega) (by omega) HKb.out).mono ?_
          rintro e w4 ⟨rfl, h4, hk4⟩
          have hown4 : w4.ownsRow w2.heap.size 4 1 (.slice (some ⟨w2.heap.size, 0, none⟩) L.length L.length) L.length (bools B) := own_keepS hk4 HO.out (fun q hq hs => by simp [Value.ownBlock] at hq; rcases hs with hs | hs <;> omega)
          obtain ⟨hc4, hz4⟩ := HCB.out _ hown4
          rw [Hb.out] at hc4
          have hst := (hown4.stored k (.bool true)).1
          rw [HSet.out] at hst
          have HS5 := Lib.hid hst
          have H5 := Lib.hid (h4.setOther hc4 (by intro x hx; cases hx) (by show _ ≤ w2.heap.size; exact hsz) (.bool true))
          clear h4 hk4 hown4 hst
          go_wp2_with fail
          go_roundw
          case rel => exact ⟨j + 1, n + 1, putK m k xs, B.set k true, by omega, by go_num, by omega, H5.out, HK.out.put k HLk.out, (fun q hq r hr => by
            rw [atB_set _ _ _ (by rw [HK.out.1]; exact hkl)] at hq
            by_cases e : q = k
            · subst e; rw [HLk.out] at hr; cases hr; exact hx40
            · rw [if_neg e] at hq; exact H40.out q hq r hr), HS5.out⟩
          case measure => simp [intOf]; omega
        | true =>
          rw [hb, if_pos rfl] at hkb
          have HKb := Lib.hid hkb
          have Hb := Lib.hid hb
          clear hkb hb
          obtain ⟨hc4, hz4⟩ := HCB.out _ HO.out
          rw [Hb.out] at hc4
          have hst := (HO.out.stored k (.bool true)).1
          rw [HSet.out] at hst
          have HS5 := Lib.hid hst
          have H5 := Lib.hid (HL.out.setOther hc4 (by intro x hx; cases hx) (by show _ ≤ w2.heap.size; exact hsz) (.bool true))
          clear hst
          go_wp2_with fail
          refine (HL.out.known (slot := k) HSU.out HUX.out (by omega) (by omega) HKb.out).mono ?_
          rw [if_pos rfl]
          rintro e w' ⟨rfl, rfl⟩
          go_wp2_with fail
          go_roundw
          case rel => exact ⟨j + 1, n, m, B.set k true, by omega, by go_num, by omega, H5.out, HK.out.again k Hb.out, (fun q hq r hr => by
            rw [atB_set _ _ _ (by rw [HK.out.1]; exact hkl)] at hq
            by_cases e : q = k
            · subst e; rw [HLk.out] at hr; cases hr; exact hx40
            · rw [if_neg e] at hq; exact H40.out q hq r hr), HS5.out⟩
          case measure => simp [intOf]; omega
      · go_wp2_with fail
        go_ret
        exact ⟨rfl, hb1.out.trans (HL.out.below.mono hb1.out.size)⟩
    · have hjl : ord.length = j := by omega
      subst hjl
      obtain ⟨wa, hwa⟩ : ∃ wa : World, wa = wr := ⟨_, rfl⟩
      go_wp2_with fail
      go_loopw [12, 13, 15, 16, 17] (fun t x i _ _ wr => ∃ k : Nat, k ≤ L.length ∧ i = .int .i64 k ∧ t = .int .i64 (topF B k : Nat) ∧ x = .int .i64 (nextF B k : Nat) ∧ LW w1 wr n m ∧ wr.ownsRow w2.heap.size 4 1 (.slice (some ⟨w2.heap.size, 0, none⟩) L.length L.length) L.length (bools B)) (fun _ _ i _ _ _ => L.length - (intOf i).toNat)
      case atStart => exact ⟨0, by omega, rfl, rfl, rfl, HL.out, HO.out⟩
      case round =>
        clear hwa HL HO hwz
        obtain ⟨k, hk, rfl, rfl, rfl, hlw, hown⟩ := hrel
        have HL := Lib.hid hlw
        have HO := Lib.hid hown
        have hwz := hlw.size
        have htk := topF_le B k
        have hnk := nextF_le B k
        clear hlw hown
        by_cases hkl : k < L.length
        · have hl := HK.out.1
          have hcB : ∀ w' : World, w'.ownsRow w2.heap.size 4 1 (.slice (some ⟨w2.heap.size, 0, none⟩) L.length L.length) L.length (bools B) → w'.cell? ⟨w2.heap.size, k, none⟩ = some (.bool (atB B k)) := fun w' h => by
            rw [h.cellAt _ (by omega), List.getElem?_map]
            simp [atB, List.getElem?_eq_getElem (show k < B.length by omega)]
          have hc4 := hcB _ HO.out
          have HCB := Lib.hid hcB
          have his := HK.out.at k hkl
          have hkb := HK.out.2.1 k _ (List.getElem?_eq_getElem hkl)
          have ht1 : topF B (k + 1) = if atB B k then k + 1 else topF B k := rfl
          have hn1 : nextF B (k + 1) = if atB B k && nextF B k == k then k + 1 else nextF B k := rfl
          obtain ⟨xs, hxs⟩ : ∃ xs, xs = L[k] := ⟨_, rfl⟩
          have hux : U8 xs := by rw [hxs]; exact HU.out _ (List.getElem_mem hkl)
          obtain ⟨va', vc', hv', _, _, hrow⟩ := (HR.out.below HL.out.below (Nat.le_refl _)).row
          cases hv'
          obtain ⟨a, u, rfl, hcu, hsu⟩ := hrow k hkl
          rw [← hxs] at hsu hkb
          have hcu0 : k = 0 → wr.cell? a = some u := fun e => by subst e; rw [show a.add (0 : Nat) = a by cases a; rfl] at hcu; exact hcu
          have HUX := Lib.hid hux
          have HSU := Lib.hid hsu
          clear hcB hxs hux hrow hsu
          generalize hT : topF B k = T at *
          generalize hN : nextF B k = N at *
          have HT := Lib.hid hT
          have HN := Lib.hid hN
          cases hb : atB B k with
          | false =>
            rw [hb] at hc4 his
            rw [hb, if_neg (by decide)] at ht1
            rw [hb, Bool.false_and, if_neg (by decide)] at hn1
            have Ht1 := Lib.hid ht1
            have Hn1 := Lib.hid hn1
            have His := Lib.hid his
            have Hb := Lib.hid hb
            clear his ht1 hn1 hkb hT hN hb
            go_wp2_with fail
            refine (HL.out.get (slot := k) (by omega) (by omega)).mono ?_
            rintro e w6 ⟨v6, x6, rfl, hv6, _, hx6, hb6⟩
            rw [show (m (k : Int)).isSome = false from His.out]
            have H6 := Lib.hid (HL.out.step hb6)
            have hown6 := own_keep HO.out (fun q hq => hb6.block q (HO.out.lt q hq).2)
            have hc6 := HCB.out _ hown6
            rw [Hb.out] at hc6
            have HO6 := Lib.hid hown6
            clear hv6 hx6 hb6 hown6 hc4
            go_wp2_with fail
            go_quiet (fail)
            go_wp2_with fail
            go_roundw
            case rel => exact ⟨k + 1, by omega, by go_num, by rw [Ht1.out], by rw [Hn1.out], H6.out.step (below_drewN (Below.refl _ _) _), own_drewN HO6.out _⟩
            case measure => simp [intOf]; omega
          | true =>
            rw [hb] at hc4 his
            rw [hb, if_pos rfl] at ht1 hkb
            rw [hb, Bool.true_and] at hn1
            have hsx := fun (w' : World) (h : Below wr.heap.size wr w') => HSU.out.below h (Nat.le_refl _)
            have HSX := Lib.hid hsx
            obtain ⟨ua, uc, rfl, huc, hum⟩ := HSU.out.form
            have Ht1 := Lib.hid ht1
            have His := Lib.hid his
            have Hb := Lib.hid hb
            have HKb := Lib.hid hkb
            clear his ht1 hkb hT hN hb hsx
            by_cases hNk : N = k
            · have hnb : ((N : Int) == (k : Int)) = true := by rw [beq_iff_eq]; omega
              rw [if_pos (by simpa using hNk)] at hn1
              have Hn1 := Lib.hid hn1
              clear hn1 hNk
              go_wp2_with fail
              refine (HL.out.get (slot := k) (by omega) (by omega)).mono ?_
              rintro e w6 ⟨v6, x6, rfl, hv6, _, hx6, hb6⟩
              rw [show (m (k : Int)).isSome = true from His.out]
              have hx : x6 = xs := by
                rcases hx6 with h | h
                · rw [HKb.out] at h; cases h; rfl
                · rw [HKb.out] at h; cases h.1
              subst hx
              have H6 := Lib.hid (HL.out.step hb6)
              have hown6 := own_keep HO.out (fun q hq => hb6.block q (HO.out.lt q hq).2)
              have hc6 := HCB.out _ hown6
              rw [Hb.out] at hc6
              have HO6 := Lib.hid hown6
              have hcu6 : w6.cell? (a.add k) = some (.slice ua (u8s x6).length uc) := (hb6.cell (World.block_lt_of_cell? _ _ hcu)).trans hcu
              have hcu60 : k = 0 → w6.cell? a = some (.slice ua (u8s x6).length uc) := fun e => by subst e; rw [show a.add (0 : Nat) = a by cases a; rfl] at hcu6; exact hcu6
              have r1 : ∀ q : Nat, (convert 28 9 v6).run Try.prog (w6.drewN q) = .ok (.string (strB x6)) (w6.drewN q) := fun q => run_strB Try.underlying28 Try.underlying5 Try.underlying9 (hv6.drewN q)
              have r2 : ∀ q : Nat, (convert 28 9 (.slice ua (u8s x6).length uc)).run Try.prog (w6.drewN q) = .ok (.string (strB x6)) (w6.drewN q) := fun q => run_strB Try.underlying28 Try.underlying5 Try.underlying9 ((HSX.out _ hb6).drewN q)
              obtain ⟨nu, hnu⟩ : ∃ nu, nu = (u8s x6).length := ⟨_, rfl⟩
              rw [← hnu] at r2 hcu6 hcu60
              obtain ⟨a6, c6, rfl, _, _⟩ := hv6.form
              obtain ⟨n6, hn6⟩ : ∃ n6, n6 = (u8s x6).length := ⟨_, rfl⟩
              rw [← hn6] at r1 ⊢
              generalize strB x6 = sx at *
              clear hv6 hx6 hb6 hown6 hc4 hnu hn6 hcu hcu0
              go_wp2_with fail
              go_quiet (fail)
              go_wp2_with fail
              go_roundw
              case rel => exact ⟨k + 1, by omega, by go_num, by rw [Ht1.out]; go_num, by rw [Hn1.out]; go_num, H6.out.step (below_drewN (Below.refl _ _) _), own_drewN HO6.out _⟩
              case measure => simp [intOf]; omega
            · have hnb : ((N : Int) == (k : Int)) = false := by rw [beq_eq_false_iff_ne]; omega
              rw [if_neg (by simpa using hNk)] at hn1
              have Hn1 := Lib.hid hn1
              clear hn1 hNk
              go_wp2_with fail
              refine (HL.out.get (slot := k) (by omega) (by omega)).mono ?_
              rintro e w6 ⟨v6, x6, rfl, hv6, _, hx6, hb6⟩
              rw [show (m (k : Int)).isSome = true from His.out]
              have hx : x6 = xs := by
                rcases hx6 with h | h
                · rw [HKb.out] at h; cases h; rfl
                · rw [HKb.out] at h; cases h.1
              subst hx
              have H6 := Lib.hid (HL.out.step hb6)
              have hown6 := own_keep HO.out (fun q hq => hb6.block q (HO.out.lt q hq).2)
              have hc6 := HCB.out _ hown6
              rw [Hb.out] at hc6
              have HO6 := Lib.hid hown6
              have hcu6 : w6.cell? (a.add k) = some (.slice ua (u8s x6).length uc) := (hb6.cell (World.block_lt_of_cell? _ _ hcu)).trans hcu
              have hcu60 : k = 0 → w6.cell? a = some (.slice ua (u8s x6).length uc) := fun e => by subst e; rw [show a.add (0 : Nat) = a by cases a; rfl] at hcu6; exact hcu6
              have r1 : ∀ q : Nat, (convert 28 9 v6).run Try.prog (w6.drewN q) = .ok (.string (strB x6)) (w6.drewN q) := fun q => run_strB Try.underlying28 Try.underlying5 Try.underlying9 (hv6.drewN q)
              have r2 : ∀ q : Nat, (convert 28 9 (.slice ua (u8s x6).length uc)).run Try.prog (w6.drewN q) = .ok (.string (strB x6)) (w6.drewN q) := fun q => run_strB Try.underlying28 Try.underlying5 Try.underlying9 ((HSX.out _ hb6).drewN q)
              obtain ⟨nu, hnu⟩ : ∃ nu, nu = (u8s x6).length := ⟨_, rfl⟩
              rw [← hnu] at r2 hcu6 hcu60
              obtain ⟨a6, c6, rfl, _, _⟩ := hv6.form
              obtain ⟨n6, hn6⟩ : ∃ n6, n6 = (u8s x6).length := ⟨_, rfl⟩
              rw [← hn6] at r1 ⊢
              generalize strB x6 = sx at *
              clear hv6 hx6 hb6 hown6 hc4 hnu hn6 hcu hcu0
              go_wp2_with fail
              go_quiet (fail)
              go_wp2_with fail
              go_roundw
              case rel => exact ⟨k + 1, by omega, by go_num, by rw [Ht1.out]; go_num, by rw [Hn1.out], H6.out.step (below_drewN (Below.refl _ _) _), own_drewN HO6.out _⟩
              case measure => simp [intOf]; omega
        · have hkl2 : L.length = k := by omega
          have htop := HK.out.top (by omega)
          have hnext := HK.out.next
          have hgaps := HK.out.gaps (by omega)
          have hnk' := nextF_le B L.length
          have hgk := gapF_le B (topF B L.length)
          rw [← hkl2] at htk hnk
          rw [← hkl2]
          have hcG : ∀ (w' : World) (g : Nat), g < L.length → w'.ownsRow w2.heap.size 4 1 (.slice (some ⟨w2.heap.size, 0, none⟩) L.length L.length) L.length (bools B) → w'.cell? ⟨w2.heap.size, g, none⟩ = some (.bool (atB B g)) := fun w' g hg h => by
            have hl := HK.out.1
            rw [h.cellAt _ (by omega), List.getElem?_map]
            simp [atB, List.getElem?_eq_getElem (show g < B.length by omega)]
          have HCG := Lib.hid hcG
          have hgdef : ∀ g, gapF B (g + 1) = if atB B g then gapF B g else gapF B g + 1 := fun g => rfl
          have HGd := Lib.hid hgdef
          have HGl := Lib.hid (gapF_le B)
          clear hcG hgdef hkl2
          generalize topF B L.length = T at *
          generalize nextF B L.length = N at *
          have Htop := Lib.hid htop
          have Hnext := Lib.hid hnext
          have Hgaps := Lib.hid hgaps
          clear htop hnext hgaps
          go_wp2_with fail
          go_loop [14, 18] (fun x i => ∃ g : Nat, g ≤ T ∧ i = .int .i64 g ∧ x = .int .i64 (gapF B g : Nat)) (fun _ i => T - (intOf i).toNat)
          case atStart => exact ⟨0, by omega, rfl, rfl⟩
          case round =>
            obtain ⟨g, hg, rfl, rfl⟩ := hrel
            have hgl := HGl.out g
            by_cases hgT : g < T
            · have hc := HCG.out wr g (by omega) HO.out
              have hgd := HGd.out g
              cases hb : atB B g with
              | true =>
                rw [hb] at hc
                rw [hb, if_pos rfl] at hgd
                have Hgd := Lib.hid hgd
                clear hgd hb
                generalize gapF B g = G at *
                go_wp2_with fail
                go_round
                case rel => exact ⟨g + 1, by omega, by go_num, by rw [Hgd.out]⟩
                case measure => simp [intOf]; omega
              | false =>
                rw [hb] at hc
                rw [hb, if_neg (by decide)] at hgd
                have Hgd := Lib.hid hgd
                clear hgd hb
                generalize gapF B g = G at *
                go_wp2_with fail
                go_round
                case rel => exact ⟨g + 1, by omega, by go_num, by rw [Hgd.out]; go_num⟩
                case measure => simp [intOf]; omega
            · have hgT2 : T = g := by omega
              subst hgT2
              have hT20 : T ≤ 20 := by omega
              generalize gapF B T = G at *
              clear hgk hgT
              go_wp2_with (first
                | (go_at_call 13; refine (HL.out.top Htop.out).mono ?_; rintro e w' ⟨rfl, rfl⟩)
                | (go_at_call 11; refine (HL.out.next Hnext.out).mono ?_; rintro e w' ⟨rfl, rfl⟩)
                | fail)
              refine (HL.out.gaps Hnext.out Htop.out (by decide) (by decide)).mono ?_
              rintro e w6 ⟨v6, rfl, hs6, hb6⟩
              have H6 := Lib.hid (HL.out.step hb6)
              obtain ⟨ao6, c6, rfl, hc6, hm6⟩ := hs6.form
              simp only [List.length_map] at hc6 ⊢
              rw [Hgaps.out] at hc6 ⊢
              clear hs6 hb6
              go_wp2_with fail
              refine (H6.out.from (slot := 0) (most := 1000) (by decide) (by decide) (by decide)).mono ?_
              rintro e w9 ⟨v9, L9, rfl, hv9, hr9, hl9, he9, hb9⟩
              have hlen9 : L9.length = N := hr9.count (d := N) hl9 he9 (by omega) (fun q hq => by rw [show (0 : Int) + q = q by omega]; exact Hnext.out.2.1 q (by omega) (by omega)) (Or.inr (by rw [show (0 : Int) + N = N by omega]; exact Hnext.out.2.2))
              obtain ⟨ao9, c9, rfl, hc9, hm9, _⟩ := hv9.row
              have H9 := Lib.hid (H6.out.step hb9)
              clear hr9 hl9 he9 hb9 hv9
              rw [hlen9] at hc9 ⊢
              clear hlen9
              go_wp2_with fail
              go_ret
              exact ⟨rfl, hb1.out.trans (H9.out.below.mono hb1.out.size)⟩

set_option maxRecDepth 100000 in
set_option maxHeartbeats 2000000 in
theorem learnerOrder_empty {v vo : Value} {ord : List Int} {W : World} (hv : RowsK W .u8 v []) (ho : SlR W vo (u8s ord)) (lo : ord.length ≤ 100) :
    Calls Try.prog 4 #[v, vo] W fun e W' => e = .returned (.bool true) ∧ Below W.heap.size W W' := by
  obtain ⟨va, vc, rfl, hvc, hvm, _⟩ := hv.row
  obtain ⟨oa, oc, rfl, hoc, hom, _⟩ := ho.intsAt
  obtain ⟨i0, hi, hz0, hz1, hz2⟩ := info_parts Try.boolInfo
  have hnx : IsNext (fun _ => none) 0 := ⟨by omega, by intro j h1 h2; omega, rfl⟩
  have htp : IsTop (fun _ => none) 0 := ⟨by omega, by omega, by simp, Or.inl rfl⟩
  have Hnx := Lib.hid hnx
  have Htp := Lib.hid htp
  clear hv ho hnx htp
  simp only [List.length_nil] at *
  go_enter Try.func4, Try.ntmps4
  go_wp2_with (go_at_call 7; refine (awake_any W).mono ?_; rintro e w1 ⟨rfl, hb1⟩; have hb1 := Lib.hid hb1)
  refine (new_lw w1).mono ?_
  rintro e w2 ⟨rfl, h2⟩
  have H2 := Lib.hid h2
  clear h2
  go_wp2_with (at_make; refine wpList_make_full _ rfl _ _ 46 rfl w2.heap.size 4 i0 (.bool false) 1 Try.underlying46 hi hz0 hz1 _ _ _ _ 0 rfl rfl rfl rfl (by rw [hz2]; omega) (by unfold maxLen; omega) (Nat.le_refl _) ?_; intro w3 hown hg; have hg := Lib.hid hg)
  have H3 := Lib.hid (H2.out.step ((Below.refl _ _).grown hg.out (Nat.le_refl _) (by simp)))
  clear hg H2
  by_cases hl : ord.length = 0
  all_goals
    go_loop [9, 10, 11] (fun i _ _ => i = .int .i64 0) (fun _ _ _ => 0)
    case atStart => rfl
    case round =>
      subst hrel
      go_wp2_with fail
      go_loop [12, 13, 15, 16, 17] (fun t x i _ _ => t = .int .i64 0 ∧ x = .int .i64 0 ∧ i = .int .i64 0) (fun _ _ _ _ _ => 0)
      case atStart => exact ⟨rfl, rfl, rfl⟩
      case round =>
        obtain ⟨rfl, rfl, rfl⟩ := hrel
        go_wp2_with fail
        go_loop [14, 18] (fun t i => t = .int .i64 0 ∧ i = .int .i64 0) (fun _ _ => 0)
        case atStart => exact ⟨rfl, rfl⟩
        case round =>
          obtain ⟨rfl, rfl⟩ := hrel
          go_wp2_with (first
            | (go_at_call 13; refine (H3.out.top Htp.out).mono ?_; rintro e w' ⟨rfl, rfl⟩)
            | (go_at_call 11; refine (H3.out.next Hnx.out).mono ?_; rintro e w' ⟨rfl, rfl⟩)
            | fail)
          refine (H3.out.gaps Hnx.out Htp.out (by decide) (by decide)).mono ?_
          rintro e w6 ⟨v6, rfl, hs6, hb6⟩
          have H6 := Lib.hid (H3.out.step hb6)
          have e0 : (unk (fun _ => none) 0 ((0 : Int) - 0).toNat).take (1000 : Int).toNat = [] := by decide
          rw [e0] at hs6
          obtain ⟨ao6, c6, rfl, hc6, hm6⟩ := hs6.form
          simp only [List.length_map, List.length_nil] at hc6 ⊢
          clear hs6 hb6 e0
          go_wp2_with fail
          refine (H6.out.from (slot := 0) (most := 1000) (by decide) (by decide) (by decide)).mono ?_
          rintro e w9 ⟨v9, L9, rfl, hv9, hr9, hl9, he9, hb9⟩
          have hlen9 : L9.length = 0 := hr9.count (d := 0) hl9 he9 (by omega) (fun q hq => by omega) (Or.inr rfl)
          obtain ⟨ao9, c9, rfl, hc9, hm9, _⟩ := hv9.row
          have H9 := Lib.hid (H6.out.step hb9)
          clear hr9 hl9 he9 hb9 hv9
          rw [hlen9] at hc9 ⊢
          clear hlen9
          go_wp2_with fail
          go_ret
          exact ⟨rfl, hb1.out.trans (H9.out.below.mono hb1.out.size)⟩

set_option maxRecDepth 100000 in
theorem learnerOrder_walk {v vo : Value} {L : List (List Int)} {ord : List Int} {W : World} (hv : RowsK W .u8 v L) (hu : ∀ r ∈ L, ∀ x ∈ r, (Lit.int .u8 x).wf = true) (ho : SlR W vo (u8s ord)) (uo : ∀ x ∈ ord, (Lit.int .u8 x).wf = true) :
    Calls Try.prog 4 #[v, vo] W fun e W' => e = .returned (.bool true) ∧ Below W.heap.size W W' := by
  by_cases hL : L.length ≤ 20
  · by_cases lo : ord.length ≤ 100
    · by_cases h0 : 0 < L.length
      · exact learnerOrder_in hv (fun r hr => u8_of_wf (hu r hr)) ho (u8_of_wf uo) h0 hL lo
      · have : L = [] := List.eq_nil_of_length_eq_zero (by omega)
        subst this
        exact learnerOrder_empty hv ho lo
    · obtain ⟨va, vc, rfl, hvc, hvm, _⟩ := hv.row
      obtain ⟨oa, oc, rfl, hoc, hom, _⟩ := ho.intsAt
      go_enter Try.func4, Try.ntmps4
      go_wp2_with (go_at_call 7; refine (awake_any W).mono ?_; rintro e w1 ⟨rfl, hb1⟩; have hb1 := Lib.hid hb1)
      go_ret
      exact ⟨rfl, hb1.out⟩
  · obtain ⟨va, vc, rfl, hvc, hvm, _⟩ := hv.row
    obtain ⟨oa, oc, rfl, hoc, hom, _⟩ := ho.intsAt
    go_enter Try.func4, Try.ntmps4
    go_wp2_with (go_at_call 7; refine (awake_any W).mono ?_; rintro e w1 ⟨rfl, hb1⟩; have hb1 := Lib.hid hb1)
    go_ret
    exact ⟨rfl, hb1.out⟩

theorem learnerOrder_holds : Rows.LearnerOrderSaid :=
  OpenClaim.holds_of_wide 4 Try.f4 rfl rfl rfl rfl rfl rfl rfl ⟨rfl, rfl, rfl, rfl, rfl⟩ rfl rfl rfl rfl rfl (by kernel_rfl) Try.func4 (by kernel_rfl)
    (of_decide_eq_true (by kernel_rfl)) (by unfold Func.isWrapper; rw [if_neg (by decide +kernel)]; exact ⟨rfl, rfl⟩)
    (fun os started H enc _ => law_frame (C := Try.checked) (fn := Try.f4) (s := Rows.learnerOrderSpec) (tb := 4) Try.own started (by kernel_rfl) Try.func4 Try.laidOut rfl (by kernel_rfl) Try.underlying4 (by kernel_rfl)
      (fun ds hd => by match ds, hd with | [_, _], _ => exact ⟨rfl, rfl, rfl⟩)
      (ChangeSpec.witness6 (enc := enc) (C := Try.checked) false ⟨#[], #[.slice none 0 0, .slice none 0 0], []⟩ 8 (by kernel_rfl) (by kernel_rfl) (by kernel_rfl) (by kernel_rfl))
      (fun W base args ds p hval0 hA0 _ => by
        have hval : ∀ (j : Nat) t v, Try.f4.params[j]? = some t → args[j]? = some v → Value.okWide Try.prog W .any base t v := hval0
        have hA : DataW.TrodAll enc Try.prog W 0 (fun _ => true) true Try.f4.params.toList args.toList ds p := hA0
        rw [Try.params4] at hA hval
        obtain ⟨v0, v1, d0, d1, p0, p1, rfl, rfl, rfl, h0, h1⟩ := trodAll_two hA
        obtain ⟨x0, hx0, wx0⟩ := arg_rowsK Try.underlying23 Try.underlying28 Try.underlying5 (by kernel_rfl) (by kernel_rfl) (hval 0 23 v0 rfl rfl) h0
        obtain ⟨x1, hx1, wx1⟩ := arg_ints Try.underlying28 Try.underlying5 (by kernel_rfl) (hval 1 28 v1 rfl rfl) h1
        exact learnerOrder_walk hx0 wx0 hx1 wx1))

end Go.Proofs.Ytfkganccglmmlaa
