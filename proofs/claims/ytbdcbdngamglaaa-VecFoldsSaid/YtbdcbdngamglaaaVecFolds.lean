/-
  VecFolds: of any rows: the least and the greatest are the same in whatever order, and however they are put together. No condition: every input.
-/
import Derived.Test.YtbdcbdngamglaaaPlain2
import Derived.Test.YtbdcbdngamglaaaLib2
import Derived.Test.YtbdcbdngamglaaaFrame
namespace Go.Proofs.Ytbdcbdngamglaaa
open Go.ChangeShapes Go.WideShapes Go.ChangeAt Go.RowKit

theorem addr_add_add (a : Addr) (k j : Nat) : (a.add k).add j = a.add (k + j) := by
  unfold Addr.add
  by_cases hk : k = 0 <;> by_cases hj : j = 0 <;> simp [hk, hj, Nat.add_assoc]
theorem SlR.drop {w : World} {a : Addr} {n c : Nat} {cs : List Value} (h : SlR w (.slice (some a) n c) cs) (k : Nat) : SlR w (.slice (some (a.add k)) (n - k) (c - k)) (cs.drop k) := by
  have hc := h.cell
  obtain ⟨ao, c', hv, h1, h2, _⟩ := h
  cases hv
  have e : (cs.drop k).length = cs.length - k := by simp
  refine ⟨_, c - k, by rw [e], by rw [e]; omega, by omega, fun i u hi => ⟨_, rfl, ?_⟩⟩
  rw [addr_add_add]
  exact hc _ _ (by rwa [List.getElem?_drop] at hi)
theorem SlR.front {w : World} {ao : Option Addr} {n c : Nat} {cs : List Value} (h : SlR w (.slice ao n c) cs) (k : Nat) (hk : k ≤ n) : SlR w (.slice ao k c) (cs.take k) := by
  obtain ⟨ao', c', hv, h1, h2, hx⟩ := h
  cases hv
  have e : (cs.take k).length = k := by simp; omega
  refine ⟨ao, c, by rw [e], by rw [e]; omega, by omega, fun i u hi => hx i u ?_⟩
  rw [List.getElem?_take] at hi
  split at hi
  · exact hi
  · cases hi
/-- The row values of a slice of slices. -/
def ValsR (w : World) (vs : List Value) (L : List (List Int)) : Prop := vs.length = L.length ∧ ∀ (i : Nat) u r, vs[i]? = some u → L[i]? = some r → SlR w u (u64s r)
theorem RowsR.vals {w : World} {v : Value} {L : List (List Int)} (h : RowsR w v L) : ∃ vs, SlR w v vs ∧ ValsR w vs L := by
  obtain ⟨ao, c, rfl, h1, h2, hx⟩ := h
  cases ao with
  | none =>
    have hL : L = [] := by
      cases L with
      | nil => rfl
      | cons r R => obtain ⟨a, u, ha, _⟩ := hx 0 r rfl; cases ha
    subst hL
    exact ⟨[], ⟨none, c, rfl, h1, h2, by simp⟩, rfl, by simp⟩
  | some a =>
    refine ⟨(List.range L.length).map fun i => (w.cell? (a.add i)).getD undef, ⟨some a, c, by simp, by simpa using h1, h2, fun i u hi => ⟨a, rfl, ?_⟩⟩, by simp, fun i u r hu hr => ?_⟩
    · have hl : i < L.length := by have := (List.getElem?_eq_some_iff.1 hi).1; simpa using this
      obtain ⟨a', u', ha, hc, _⟩ := hx i _ (List.getElem?_eq_getElem hl)
      cases ha
      simp [hl, hc] at hi
      rw [hc, hi]
    · obtain ⟨a', u', ha, hc, hs⟩ := hx i r hr
      cases ha
      have hl : i < L.length := (List.getElem?_eq_some_iff.1 hr).1
      simp [hl, hc] at hu
      rw [← hu]; exact hs
theorem ValsR.rows {w : World} {v : Value} {vs : List Value} {L : List (List Int)} (hv : SlR w v vs) (h : ValsR w vs L) : RowsR w v L := by
  obtain ⟨ao, c, rfl, h1, h2, hx⟩ := hv
  obtain ⟨hl, hr⟩ := h
  refine ⟨ao, c, by rw [hl], by omega, h2, fun i r hi => ?_⟩
  have hlt : i < vs.length := by have := (List.getElem?_eq_some_iff.1 hi).1; omega
  obtain ⟨a, ha, hc⟩ := hx i _ (List.getElem?_eq_getElem hlt)
  exact ⟨a, _, ha, hc, hr i _ _ (List.getElem?_eq_getElem hlt) hi⟩
theorem ValsR.below {B : Nat} {w w' : World} {vs : List Value} {L : List (List Int)} (h : ValsR w vs L) (hb : Below B w w') (hB : w.heap.size ≤ B) : ValsR w' vs L :=
  ⟨h.1, fun i u r hu hr => (h.2 i u r hu hr).below hb hB⟩
theorem ValsR.take {w : World} {vs : List Value} {L : List (List Int)} (h : ValsR w vs L) (k : Nat) : ValsR w (vs.take k) (L.take k) := by
  refine ⟨by simp [h.1], fun i u r hu hr => ?_⟩
  rw [List.getElem?_take] at hu hr
  split at hu
  · rename_i hk; rw [if_pos hk] at hr; exact h.2 i u r hu hr
  · cases hu
theorem ValsR.drop {w : World} {vs : List Value} {L : List (List Int)} (h : ValsR w vs L) (k : Nat) : ValsR w (vs.drop k) (L.drop k) := by
  refine ⟨by simp [h.1], fun i u r hu hr => ?_⟩
  rw [List.getElem?_drop] at hu hr
  exact h.2 _ u r hu hr
theorem ValsR.append {w : World} {vs us : List Value} {L M : List (List Int)} (h : ValsR w vs L) (k : ValsR w us M) : ValsR w (vs ++ us) (L ++ M) := by
  refine ⟨by simp [h.1, k.1], fun i u r hu hr => ?_⟩
  rw [List.getElem?_append] at hu hr
  rw [h.1] at hu
  split at hu
  · rename_i hk; rw [if_pos hk] at hr; exact h.2 i u r hu hr
  · rename_i hk; rw [if_neg hk] at hr; exact k.2 _ u r hu hr
theorem ValsR.one {w : World} {vs : List Value} {L : List (List Int)} (h : ValsR w vs L) : ∀ u ∈ vs, u.oneCell' = true := by
  intro u hu
  obtain ⟨i, hi, rfl⟩ := List.getElem_of_mem hu
  obtain ⟨ao, c, e, _⟩ := (h.2 i _ _ (List.getElem?_eq_getElem hi) (List.getElem?_eq_getElem (by have := h.1; omega))).form
  rw [e]; rfl

theorem atFold_append (op : Int → Int → Int) (ha : ∀ x y z, op (op x y) z = op x (op y z)) (A B : List (List Int)) (hA : A ≠ []) (hB : B ≠ []) (i : Nat) :
    atFold op (A ++ B) i = op (atFold op A i) (atFold op B i) := by
  cases A with
  | nil => exact absurd rfl hA
  | cons a A =>
    cases B with
    | nil => exact absurd rfl hB
    | cons b B =>
      simp only [List.cons_append, atFold, List.foldl_append, List.foldl_cons]
      generalize List.foldl (fun x row => op x (atI row i)) (atI a i) A = z
      generalize atI b i = y
      have : ∀ z y, B.foldl (fun x row => op x (atI row i)) (op z y) = op z (B.foldl (fun x row => op x (atI row i)) y) := by
        induction B with
        | nil => intro z y; rfl
        | cons c B ih => intro z y; simp only [List.foldl_cons]; rw [ha, ih (by simp)]
      exact this z y
theorem fold_turn (op : Int → Int → Int) (hc : ∀ x y, op x y = op y x) (ha : ∀ x y z, op (op x y) z = op x (op y z)) (L : List (List Int)) (k i : Nat) : atFold op (L.drop k ++ L.take k) i = atFold op L i := by
  by_cases h1 : L.drop k = []
  · rw [h1, List.nil_append, List.take_of_length_le (List.drop_eq_nil_iff.1 h1)]
  · by_cases h2 : L.take k = []
    · rw [h2, List.append_nil]
      conv => rhs; rw [← List.take_append_drop k L, h2, List.nil_append]
    · rw [atFold_append op ha _ _ h1 h2, hc, ← atFold_append op ha _ _ h2 h1, List.take_append_drop]
theorem min_c (x y : Int) : min x y = min y x := by omega
theorem min_a (x y z : Int) : min (min x y) z = min x (min y z) := by omega
theorem max_c (x y : Int) : max x y = max y x := by omega
theorem max_a (x y z : Int) : max (max x y) z = max x (max y z) := by omega
theorem same_min_turn (L : List (List Int)) (k : Nat) : sameB (minI L) (minI (L.drop k ++ L.take k)) = true := same_iff.2 fun i => by rw [atI_minI, atI_minI, fold_turn min min_c min_a]
theorem same_max_turn (L : List (List Int)) (k : Nat) : sameB (maxI L) (maxI (L.drop k ++ L.take k)) = true := same_iff.2 fun i => by rw [atI_maxI, atI_maxI, fold_turn max max_c max_a]
theorem same_min_parts (L : List (List Int)) (k : Nat) (h0 : 0 < k) (h1 : k < L.length) : sameB (minI L) (minI [minI (L.take k), minI (L.drop k)]) = true := same_iff.2 fun i => by
  rw [atI_minI, atI_min2, atI_minI, atI_minI, ← atFold_append min min_a, List.take_append_drop]
  · intro h; have := congrArg List.length h; rw [List.length_take, List.length_nil] at this; omega
  · intro h; have := congrArg List.length h; rw [List.length_drop, List.length_nil] at this; omega
theorem same_max_parts (L : List (List Int)) (k : Nat) (h0 : 0 < k) (h1 : k < L.length) : sameB (maxI L) (maxI [maxI (L.take k), maxI (L.drop k)]) = true := same_iff.2 fun i => by
  rw [atI_maxI, atI_max2, atI_maxI, atI_maxI, ← atFold_append max max_a, List.take_append_drop]
  · intro h; have := congrArg List.length h; rw [List.length_take, List.length_nil] at this; omega
  · intro h; have := congrArg List.length h; rw [List.length_drop, List.length_nil] at this; omega
theorem min_le_max (L : List (List Int)) : leB (minI L) (maxI L) = true := le_iff.2 fun i => by
  rw [atI_minI, atI_maxI]
  cases L with
  | nil => simp [atFold]
  | cons v r =>
    simp only [atFold]
    have : ∀ (r : List (List Int)) (x y : Int), x ≤ y → r.foldl (fun x row => min x (atI row i)) x ≤ r.foldl (fun x row => max x (atI row i)) y := by
      intro r
      induction r with
      | nil => intro x y h; exact h
      | cons a r ih => intro x y h; simp only [List.foldl_cons]; exact ih _ _ (by omega)
    exact this r _ _ (Int.le_refl _)

theorem Try.rowInfo : (Try.prog.info? 22).map (fun i => (i.zero, i.size, i.bytes)) = some (some (.slice none 0 0), 1, 24) := by kernel_rfl

set_option maxHeartbeats 2000000 in
theorem vecFolds_in {v : Value} {L : List (List Int)} (t : Nat) {W : World} (hv : RowsR W v L) (hl0 : 0 < L.length) (hl8 : L.length ≤ 8) (ht : t ≤ 255) :
    Calls Try.prog 9 #[v, .int .u8 t] W fun e W' => e = .returned (.bool true) ∧ Below W.heap.size W W' := by
  have H := Lib.hid hv
  obtain ⟨i0, hi, hz0, hz1, hz2⟩ := info_parts Try.rowInfo
  obtain ⟨ao, c, rfl, hc, hm⟩ := hv.row
  have hne : ((L.length : Int) == 0) = false := by rw [beq_eq_false_iff_ne]; omega
  clear hm
  go_enter Try.func9, Try.ntmps9
  go_wp2_with (go_at_call 10; refine (awake_any W).mono ?_; rintro e w1 ⟨rfl, hb1⟩; have HB := Lib.hid hb1; have HR := Lib.hid (H.out.below hb1 (Nat.le_refl _)))
  obtain ⟨ao', c', hv', _, hx1⟩ := HR.out.row
  cases hv'
  go_loop [6] (fun i => ∃ k : Nat, k ≤ L.length ∧ i = .int .i64 k ∧ ∀ j (hj : j < L.length), j < k → L[j].length ≤ 30) (fun i => L.length - (intOf i).toNat)
  case atStart => exact ⟨0, by omega, rfl, by intro j hj h; omega⟩
  case round =>
    obtain ⟨k, hk, rfl, hall⟩ := hrel
    have HA := Lib.hid hall
    clear hall
    by_cases hlt : k < L.length
    · obtain ⟨a, u, rfl, hcell, hrow⟩ := hx1 k hlt
      obtain ⟨r, hrl⟩ : ∃ r, r = L[k] := ⟨_, rfl⟩
      rw [← hrl] at hrow
      obtain ⟨bo, cb, rfl, hcb, hmb, _⟩ := hrow.ints
      have HRl := Lib.hid hrl
      clear hx1 hrow hrl
      by_cases h40 : r.length ≤ 30
      · go_wp2
        go_round
        case rel =>
          refine ⟨k + 1, by omega, by go_num, fun j hj h => ?_⟩
          by_cases hjk : j = k
          · subst hjk; rw [← HRl.out]; exact h40
          · exact HA.out j hj (by omega)
        case measure => simp [intOf]; omega
      · go_wp2
        go_ret
        exact ⟨rfl, HB.out⟩
    · obtain ⟨a, u, rfl, _, _⟩ := hx1 0 hl0
      clear hx1
      have hlen : ∀ r ∈ L, r.length ≤ 30 := fun r hr => by
        obtain ⟨j, hj, rfl⟩ := List.getElem_of_mem hr
        exact HA.out j hj (by omega)
      have HL := Lib.hid hlen
      obtain ⟨K, hK⟩ : ∃ K, K = t % L.length := ⟨_, rfl⟩
      have hKl : K < L.length := by rw [hK]; exact Nat.mod_lt _ hl0
      have hKi : ((t : Int) % (L.length : Int)) = (K : Int) := by rw [hK]; rfl
      obtain ⟨vs, hsv, hvr⟩ := HR.out.vals
      have hLc : L.length ≤ c := by obtain ⟨ao2, c2, hv2, h2, _⟩ := HR.out; cases hv2; exact h2
      have hKc : ¬ c = K := by omega
      have HT := Lib.hid (hsv.front K (by omega))
      have HD := Lib.hid (hsv.drop K)
      have HVR := Lib.hid hvr
      have hone := hvr.one
      have h1d : ∀ u ∈ vs.drop K, u.oneCell' = true := fun u hu => hone u (List.mem_of_mem_drop hu)
      have h1t : ∀ u ∈ vs.take K, u.oneCell' = true := fun u hu => hone u (List.mem_of_mem_take hu)
      have hdl : (vs.drop K).length ≤ 8 := by rw [List.length_drop, hvr.1]; omega
      have htl : (vs.take K).length ≤ 8 := by rw [List.length_take]; omega
      obtain ⟨cs1, hcs1⟩ : ∃ cs1, cs1 = vs.drop K := ⟨_, rfl⟩
      obtain ⟨cs2, hcs2⟩ : ∃ cs2, cs2 = vs.take K := ⟨_, rfl⟩
      rw [← hcs1] at HD h1d hdl
      rw [← hcs2] at HT h1t htl
      have H1d := Lib.hid h1d
      have H1t := Lib.hid h1t
      have HC1 := Lib.hid hcs1
      have HC2 := Lib.hid hcs2
      clear hlen hK hsv hvr hone h1d h1t hcs1 hcs2
      go_wp2_with (first
        | (at_builtin; refine wpList_appSrc rfl (.tmp 39) (.tmp 42) 34 rfl w1.heap.size 22 i0 (.slice none 0 0) 24 Try.underlying34 hi hz0 hz1 hz2 rfl (by omega) rfl rfl (World.ownsRow_nil w1 w1.heap.size 22 1) HD.out H1d.out (by omega) (Nat.le_refl _) ?_; intro va w2 hown hb2 _ _ _; have hown := Lib.hid hown; have hb2 := Lib.hid hb2; have hbs2 := hb2.out.size)
        | (at_builtin; refine wpList_appSrc rfl (.tmp 44) (.tmp 47) 34 rfl w1.heap.size 22 i0 (.slice none 0 0) 24 Try.underlying34 hi hz0 hz1 hz2 rfl (by omega) rfl rfl hown.out (HT.out.below hb2.out (Nat.le_refl _)) H1t.out (by omega) hbs2 ?_; intro vb w3 hown3 hb3 _ _ _; have hown3 := Lib.hid hown3; have hb3 := Lib.hid (hb2.out.trans hb3)))
      have hL20 : ∀ r ∈ L, r.length ≤ 1048576 := fun r hr => by have := HL.out r hr; omega
      have hTm : ∀ r ∈ L.drop K ++ L.take K, r.length ≤ 1048576 := fun r hr => by
        rcases List.mem_append.1 hr with hr | hr
        · exact hL20 r (List.mem_of_mem_drop hr)
        · exact hL20 r (List.mem_of_mem_take hr)
      have hrt : RowsR w3 vb (L.drop K ++ L.take K) := by
        have h1 : SlR w3 vb (cs1 ++ cs2) := by simpa using SlR.of_own hown3.out
        have h2 : ValsR w1 (cs1 ++ cs2) (L.drop K ++ L.take K) := by rw [HC1.out, HC2.out]; exact (HVR.out.drop K).append (HVR.out.take K)
        exact (h2.below hb3.out (Nat.le_refl _)).rows h1
      have HB3 := Lib.hid (HB.out.trans (hb3.out.mono HB.out.size))
      have HR3 := Lib.hid (HR.out.below hb3.out (Nat.le_refl _))
      have HT3 := Lib.hid hrt
      clear hrt
      refine (min_any HR3.out hL20).mono ?_
      rintro e w4 ⟨v4, rfl, hown4, hb4⟩
      have HR4 := Lib.hid (HR3.out.below hb4 (Nat.le_refl _))
      have HT4 := Lib.hid (HT3.out.below hb4 (Nat.le_refl _))
      have E := Lib.hid (((Env.nil HB3.out).step hb4).add (SlR.of_own hown4))
      clear hown4 hb4
      go_wp2_with fail
      refine (max_any HR4.out hL20).mono ?_
      rintro e w5 ⟨v5, rfl, hown5, hb5⟩
      have HR5 := Lib.hid (HR4.out.below hb5 (Nat.le_refl _))
      have HT5 := Lib.hid (HT4.out.below hb5 (Nat.le_refl _))
      have E := Lib.hid ((E.out.step hb5).add (SlR.of_own hown5))
      clear hown5 hb5
      go_wp2_with fail
      refine (min_any HT5.out hTm).mono ?_
      rintro e w6 ⟨v6, rfl, hown6, hb6⟩
      have HR6 := Lib.hid (HR5.out.below hb6 (Nat.le_refl _))
      have HT6 := Lib.hid (HT5.out.below hb6 (Nat.le_refl _))
      have E := Lib.hid ((E.out.step hb6).add (SlR.of_own hown6))
      clear hown6 hb6
      go_wp2_with fail
      refine (same_any (E.out.get 2 _ _ rfl) (E.out.get 0 _ _ rfl)).mono ?_
      rw [same_min_turn]
      rintro e w' ⟨rfl, rfl⟩
      go_wp2_with fail
      refine (max_any HT6.out hTm).mono ?_
      rintro e w7 ⟨v7, rfl, hown7, hb7⟩
      have HR7 := Lib.hid (HR6.out.below hb7 (Nat.le_refl _))
      have E := Lib.hid ((E.out.step hb7).add (SlR.of_own hown7))
      clear hown7 hb7
      go_wp2_with fail
      refine (same_any (E.out.get 2 _ _ rfl) (E.out.get 0 _ _ rfl)).mono ?_
      rw [same_max_turn]
      rintro e w' ⟨rfl, rfl⟩
      go_wp2_with fail
      refine (le_any (E.out.get 3 _ _ rfl) (E.out.get 2 _ _ rfl)).mono ?_
      rw [min_le_max]
      rintro e w' ⟨rfl, rfl⟩
      by_cases hK0 : K = 0
      · have hk0 : ((K : Int) == 0) = true := by rw [beq_iff_eq]; omega
        clear hK0
        go_wp2_with fail
        go_ret
        exact ⟨rfl, E.out.below⟩
      · have hk0 : ((K : Int) == 0) = false := by rw [beq_eq_false_iff_ne]; omega
        have hKpos : 0 < K := by omega
        have P1 := Lib.hid (same_min_parts L K hKpos hKl)
        have P2 := Lib.hid (same_max_parts L K hKpos hKl)
        have hLt : ∀ r ∈ L.take K, r.length ≤ 1048576 := fun r hr => hL20 r (List.mem_of_mem_take hr)
        have hLd : ∀ r ∈ L.drop K, r.length ≤ 1048576 := fun r hr => hL20 r (List.mem_of_mem_drop hr)
        have hmt := minI_len _ _ hLt
        have hmd := minI_len _ _ hLd
        have hxt := maxI_len _ _ hLt
        have hxd := maxI_len _ _ hLd
        clear hK0
        go_wp2_with fail
        obtain ⟨vs, hsv, hvr⟩ := HR7.out.vals
        have HRt := Lib.hid (((hvr.take K).rows (hsv.front K (by omega))).below (Below.refl w7.heap.size w7).drew (Nat.le_refl _))
        have HRd := Lib.hid (((hvr.drop K).rows (hsv.drop K)).below (Below.refl w7.heap.size w7).drew (Nat.le_refl _))
        have E := Lib.hid (E.out.step (Below.refl w7.heap.size w7).drew)
        have b0 : (0 : Int) ≤ (K : Int) := by omega
        have b1 : (K : Int) ≤ (L.length : Int) := by omega
        have b2 : (K : Int) ≤ (c : Int) := by omega
        have b3 : (L.length : Int) ≤ (c : Int) := by omega
        obtain ⟨lt, hlt1⟩ : ∃ lt, lt = L.take K := ⟨_, rfl⟩
        obtain ⟨ld, hld1⟩ : ∃ ld, ld = L.drop K := ⟨_, rfl⟩
        rw [← hlt1] at HRt hLt hmt hxt P1 P2
        rw [← hld1] at HRd hLd hmd hxd P1 P2
        have P1 := Lib.hid P1.out
        have P2 := Lib.hid P2.out
        clear hsv hvr hlt1 hld1
        go_region_held3 (fun _ => True) (trivial)
          (first
            | (go_at_call 23; (with_reducible refine (min_any HRt.out hLt).mono ?_); rintro e w8 ⟨v8, rfl, hown8, hb8⟩; simp only [List.length_map] at hown8; have HR8 := Lib.hid (HRd.out.below hb8 (Nat.le_refl _)); have E8 := Lib.hid ((E.out.step hb8).add (SlR.of_own hown8)); have C8 := Lib.hid hb8; obtain ⟨a8, c8, rfl, _, _⟩ := own_slice hown8; clear hown8 hb8)
            | (go_at_call 23; (with_reducible refine (min_any HR8.out hLd).mono ?_); rintro e w9 ⟨v9, rfl, hown9, hb9⟩; simp only [List.length_map] at hown9; have E9 := Lib.hid ((E8.out.step hb9).add (SlR.of_own hown9)); have C9 := Lib.hid (C8.out.trans (hb9.mono C8.out.size)); obtain ⟨a9, c9, rfl, _, _⟩ := own_slice hown9; clear hown9 hb9)
            | (go_at_call 23; refine (min_any (rowsR_pair (E9.out.get 1 _ _ rfl) (E9.out.get 0 _ _ rfl)) (by simp; omega)).mono ?_; rintro e w10 ⟨v10, rfl, hown10, hb10⟩; have E10 := Lib.hid (((E9.out.step ((Below.refl _ _).alloc (Nat.le_refl _) _)).step hb10).add (SlR.of_own hown10)); have hs9 : w7.heap.size ≤ w9.heap.size := C9.out.size; have C10 := Lib.hid ((C9.out.alloc hs9 _).trans (hb10.mono (by simp; omega))); clear hown10 hb10)
            | (go_at_call 18; have P0 := same_any (E10.out.get 6 _ _ rfl) (E10.out.get 0 _ _ rfl); rw [P1.out] at P0; refine P0.mono ?_; rintro e w' ⟨rfl, rfl⟩; clear P0)
            | (go_at_call 25; (with_reducible refine (max_any (HRt.out.below C10.out (Nat.le_refl _)) hLt).mono ?_); rintro e w11 ⟨v11, rfl, hown11, hb11⟩; simp only [List.length_map] at hown11; have E11 := Lib.hid ((E10.out.step hb11).add (SlR.of_own hown11)); have C11 := Lib.hid (C10.out.trans (hb11.mono C10.out.size)); obtain ⟨a11, c11, rfl, _, _⟩ := own_slice hown11; clear hown11 hb11)
            | (go_at_call 25; (with_reducible refine (max_any (HRd.out.below C11.out (Nat.le_refl _)) hLd).mono ?_); rintro e w12 ⟨v12, rfl, hown12, hb12⟩; simp only [List.length_map] at hown12; have E12 := Lib.hid ((E11.out.step hb12).add (SlR.of_own hown12)); obtain ⟨a12, c12, rfl, _, _⟩ := own_slice hown12; clear hown12 hb12)
            | (go_at_call 25; refine (max_any (rowsR_pair (E12.out.get 1 _ _ rfl) (E12.out.get 0 _ _ rfl)) (by simp; omega)).mono ?_; rintro e w13 ⟨v13, rfl, hown13, hb13⟩; have E13 := Lib.hid (((E12.out.step ((Below.refl _ _).alloc (Nat.le_refl _) _)).step hb13).add (SlR.of_own hown13)); clear hown13 hb13)
            | (go_at_call 18; have P0 := same_any (E13.out.get 8 _ _ rfl) (E13.out.get 0 _ _ rfl); rw [P2.out] at P0; refine P0.mono ?_; rintro e w' ⟨rfl, rfl⟩; clear P0))
        go_wp2
        go_ret
        exact ⟨rfl, E13.out.below⟩

theorem vecFolds_walk {v : Value} {L : List (List Int)} {x1 : Int} {W : World} (hv : RowsR W v L) (_ : ∀ r ∈ L, U64 r) (ht : (Lit.int .u8 x1).wf = true) :
    Calls Try.prog 9 #[v, .int .u8 x1] W fun e W' => e = .returned (.bool true) ∧ Below W.heap.size W W' := by
  have hb : 0 ≤ x1 ∧ x1 ≤ 255 := by
    simp [Lit.wf, IntKind.min, IntKind.max, IntKind.signed, IntKind.bits] at ht
    omega
  obtain ⟨t, rfl⟩ := Int.eq_ofNat_of_zero_le hb.1
  by_cases h0 : 0 < L.length
  · by_cases h8 : L.length ≤ 8
    · exact vecFolds_in t hv h0 h8 (by omega)
    · obtain ⟨ao, c, rfl, hc, _⟩ := hv.row
      have hne : ((L.length : Int) == 0) = false := by rw [beq_eq_false_iff_ne]; omega
      go_enter Try.func9, Try.ntmps9
      go_wp2_with (go_at_call 10; refine (awake_any W).mono ?_; rintro e w1 ⟨rfl, hb1⟩; have HB1 := Lib.hid hb1)
      go_ret
      exact ⟨rfl, HB1.out⟩
  · obtain ⟨ao, c, rfl, hc, _⟩ := hv.row
    have hne : ((L.length : Int) == 0) = true := by rw [beq_iff_eq]; omega
    go_enter Try.func9, Try.ntmps9
    go_wp2_with (go_at_call 10; refine (awake_any W).mono ?_; rintro e w1 ⟨rfl, hb1⟩; have HB1 := Lib.hid hb1)
    go_ret
    exact ⟨rfl, HB1.out⟩

theorem vecFolds_holds : Rows.VecFoldsSaid :=
  OpenClaim.holds_of_wide 9 Try.f9 rfl rfl rfl rfl rfl rfl rfl ⟨rfl, rfl, rfl, rfl, rfl⟩ rfl rfl rfl rfl rfl (by kernel_rfl) Try.func9 (by kernel_rfl)
    (of_decide_eq_true (by kernel_rfl)) (by unfold Func.isWrapper; rw [if_neg (by decide +kernel)]; exact ⟨rfl, rfl⟩)
    (fun os started H enc _ => law_frame (C := Try.checked) (fn := Try.f9) (s := Rows.vecFoldsSpec) (tb := 4) Try.own started (by kernel_rfl) Try.func9 Try.laidOut rfl (by kernel_rfl) Try.underlying4 (by kernel_rfl)
      (fun ds hd => by match ds, hd with | [_, _], _ => exact ⟨rfl, rfl, rfl⟩)
      (ChangeSpec.witness6 (enc := enc) (C := Try.checked) false ⟨#[], #[.slice none 0 0, .int .u8 0], []⟩ 8 (by kernel_rfl) (by kernel_rfl) (by kernel_rfl) (by kernel_rfl))
      (fun W base args ds p hval0 hA0 _ => by
        have hval : ∀ (j : Nat) t v, Try.f9.params[j]? = some t → args[j]? = some v → Value.okWide Try.prog W .any base t v := hval0
        have hA : DataW.TrodAll enc Try.prog W 0 (fun _ => true) true Try.f9.params.toList args.toList ds p := hA0
        rw [Try.params9] at hA hval
        obtain ⟨v0, v1, d0, d1, p0, p1, rfl, rfl, rfl, h0, h1⟩ := trodAll_two hA
        obtain ⟨x0, hx0, wx0⟩ := arg_rows Try.underlying34 Try.underlying22 Try.underlying24 (by kernel_rfl) (by kernel_rfl) (hval 0 34 v0 rfl rfl) h0
        obtain ⟨x1, rfl, rfl, rfl, wx1⟩ := open_int Try.underlying5 (hval 1 5 v1 rfl rfl) h1
        exact vecFolds_walk hx0 wx0 wx1))

end Go.Proofs.Ytbdcbdngamglaaa
