/-
  GatherFinal: whichever of the shards take no more, and of whichever all replicas reported: just those that go on and were reported are cut, at what all of them have; and that command may be. No condition: every input.
-/
import Derived.Test.YtabanackdjlcmaaGatW
import Derived.Test.YtabanackdjlcmaaLib7
import Derived.Test.YtabanackdjlcmaaConf3
import Derived.Test.YtabanackdjlcmaaFrame
namespace Go.Proofs.Ytabanackdjlcmaa
open Go.ChangeShapes Go.WideShapes Go.ChangeAt Go.RowKit Go.Maps
set_option maxRecDepth 100000

theorem Try.shardInfo : (Try.prog.info? 35).map (fun i => (i.zero, i.size, i.bytes)) = some (some (.agg #[.int .i64 0, .int .i64 0, .slice none 0 0, .bool false]), 4, 48) := by kernel_rfl

/-- The shards of the law. -/
def shK (fin : Nat → Bool) (k : Nat) : List Sh := (List.range k).map fun (i : Nat) => ⟨(i : Int), 2, [], fin i⟩
theorem shK_succ (fin : Nat → Bool) (k : Nat) : shK fin (k + 1) = shK fin k ++ [⟨k, 2, [], fin k⟩] := by simp [shK, List.range_succ]
theorem shK_len (fin : Nat → Bool) (k : Nat) : (shK fin k).length = k := by simp [shK]
/-- What was reported of the first shards. -/
def RepF (x : Int) (rep : Nat → Bool) (k : Nat) (m : Rep) : Prop :=
  (∀ i : Nat, i < k → m i 0 = some [x] ∧ m i 1 = if rep i = true then some [x + 1] else none) ∧ ∀ i : Nat, k ≤ i → m i 0 = none ∧ m i 1 = none
theorem maxI_one (x : Int) (h : 1 ≤ x) : maxI [[], [x]] = [x] := by
  have h0 : max 0 x = x := by omega
  have h1 : (x == 0) = false := by rw [beq_eq_false_iff_ne]; omega
  simp [maxI, foldI, combI, cutI, atI, h0, h1]
theorem RepF.zero (x : Int) (rep : Nat → Bool) : RepF x rep 0 (fun _ _ => none) := ⟨fun i hi => by omega, fun _ _ => ⟨rfl, rfl⟩⟩
/-- What the law's cut gives. -/
def rowF (live : Nat → Bool) (x : Int) (k : Nat) : Rw := (List.range k).flatMap fun (i : Nat) => if live i = true then [((i : Int), [x])] else []
theorem rowF_succ (live : Nat → Bool) (x : Int) (k : Nat) : rowF live x (k + 1) = rowF live x k ++ (if live k = true then [((k : Int), [x])] else []) := by simp [rowF, List.range_succ]
theorem RepF.cut {x : Int} {rep fin : Nat → Bool} {m : Rep} (h : RepF x rep 8 m) (hx : 1 ≤ x) (k : Nat) (hk : k ≤ 8) : cutL m (shK fin k) = rowF (fun i => !fin i && rep i) x k := by
  induction k with
  | zero => rfl
  | succ k ih =>
    have ih := ih (by omega)
    have e1 : cutL m (shK fin k ++ [⟨k, 2, [], fin k⟩]) = cutL m (shK fin k) ++ newRow m ⟨k, 2, [], fin k⟩ := by unfold cutL; simp
    rw [shK_succ, e1, ih, rowF_succ]
    congr 1
    obtain ⟨h1, h2⟩ := h.1 k (by omega)
    have hl : leastL m k 2 = [(m k 0).getD [], (m k 1).getD []] := rfl
    have hB : leastB m k 2 = rep k := by
      unfold leastB
      have : List.range 2 = [0, 1] := rfl
      rw [this]
      simp only [List.all_cons, List.all_nil]
      show ((m k 0).isSome && ((m k 1).isSome && true)) = rep k
      rw [h1, h2]
      cases rep k <;> rfl
    have hmin : minI [[x], [x + 1]] = [x] := by
      have h0 : min x (x + 1) = x := by omega
      have h1 : (x == 0) = false := by rw [beq_eq_false_iff_ne]; omega
      simp [minI, foldI, combI, cutI, atI, h0, h1]
    have hM : leastM m k 2 = if rep k = true then [x] else [] := by
      unfold leastM
      rw [hB, hl, h1, h2]
      cases rep k
      · rfl
      · simpa using hmin
    have hR : rowL m k 2 [] = if rep k = true then [x] else [] := by
      unfold rowL
      rw [hM]
      cases rep k
      · rfl
      · have : ([x] : List Int).take 2 = [x] := rfl
        simp only [if_true]
        rw [this, maxI_one x hx]
    unfold newRow
    simp only
    rw [hR]
    have hs1 : sameB [x] [] = false := by
      cases hsb : sameB [x] [] with
      | false => rfl
      | true =>
        have := same_iff.1 hsb 0
        simp [atI] at this
        omega
    have hs2 : sameB [] [] = true := rfl
    cases fin k <;> cases rep k <;> simp [hs1, hs2]
theorem rowF_len (live : Nat → Bool) (x : Int) (k : Nat) : (rowF live x k).length ≤ k := by
  induction k with
  | zero => simp [rowF]
  | succ k ih =>
    rw [rowF_succ, List.length_append]
    have : (if live k = true then [((k : Int), [x])] else []).length ≤ 1 := by split <;> simp
    omega
theorem rowF_split (live : Nat → Bool) (x : Int) (k d : Nat) : ∃ R, rowF live x (k + d) = rowF live x k ++ R := by
  induction d with
  | zero => exact ⟨[], by simp⟩
  | succ d ih =>
    obtain ⟨R, hR⟩ := ih
    rw [← Nat.add_assoc, rowF_succ, hR]
    exact ⟨_, by rw [List.append_assoc]⟩
theorem rowF_at (live : Nat → Bool) (x : Int) (k : Nat) (hk : k < 8) (hl : live k = true) : (rowF live x 8)[(rowF live x k).length]? = some ((k : Int), [x]) := by
  obtain ⟨R, hR⟩ := rowF_split live x (k + 1) (8 - (k + 1))
  rw [show k + 1 + (8 - (k + 1)) = 8 by omega, rowF_succ live x k, if_pos hl, List.append_assoc] at hR
  rw [hR, List.getElem?_append_right (Nat.le_refl _), Nat.sub_self]; rfl

theorem RepF.more {x : Int} {rep : Nat → Bool} {k : Nat} {m : Rep} (h : RepF x rep k m) (hx : 1 ≤ x) : (rep k = false → RepF x rep (k + 1) (repG m k 0 [x])) ∧ (rep k = true → RepF x rep (k + 1) (repG (repG m k 0 [x]) k 1 [x + 1])) := by
  obtain ⟨h1, h2⟩ := h
  obtain ⟨k0, k1⟩ := h2 k (Nat.le_refl _)
  have e0 : repG m k 0 [x] = putG m k 0 [x] := by unfold repG; rw [k0]; simp only [Option.getD_none]; rw [maxI_one x hx]
  have e1 : repG (putG m k 0 [x]) k 1 [x + 1] = putG (putG m k 0 [x]) k 1 [x + 1] := by
    unfold repG
    rw [putG_ne _ _ _ _ _ _ (by rintro ⟨_, h⟩; cases h), k1]; simp only [Option.getD_none]; rw [maxI_one (x + 1) (by omega)]
  refine ⟨fun hr => ?_, fun hr => ?_⟩
  · rw [e0]
    refine ⟨fun i hi => ?_, fun i hi => ?_⟩
    · by_cases e : i = k
      · subst e
        rw [putG_self, putG_ne _ _ _ _ _ _ (by rintro ⟨_, h⟩; cases h), k1, hr]
        exact ⟨rfl, rfl⟩
      · rw [putG_ne _ _ _ _ _ _ (by rintro ⟨h, _⟩; omega), putG_ne _ _ _ _ _ _ (by rintro ⟨h, _⟩; omega)]
        exact h1 i (by omega)
    · rw [putG_ne _ _ _ _ _ _ (by rintro ⟨h, _⟩; omega), putG_ne _ _ _ _ _ _ (by rintro ⟨h, _⟩; omega)]
      exact h2 i (by omega)
  · rw [e0, e1]
    refine ⟨fun i hi => ?_, fun i hi => ?_⟩
    · by_cases e : i = k
      · subst e
        rw [putG_self, putG_ne _ _ _ _ _ _ (by rintro ⟨_, h⟩; cases h), putG_self, hr]
        exact ⟨rfl, rfl⟩
      · rw [putG_ne _ _ _ _ _ _ (by rintro ⟨h, _⟩; omega), putG_ne _ _ _ _ _ _ (by rintro ⟨h, _⟩; omega), putG_ne _ _ _ _ _ _ (by rintro ⟨h, _⟩; omega), putG_ne _ _ _ _ _ _ (by rintro ⟨h, _⟩; omega)]
        exact h1 i (by omega)
    · rw [putG_ne _ _ _ _ _ _ (by rintro ⟨h, _⟩; omega), putG_ne _ _ _ _ _ _ (by rintro ⟨h, _⟩; omega), putG_ne _ _ _ _ _ _ (by rintro ⟨h, _⟩; omega), putG_ne _ _ _ _ _ _ (by rintro ⟨h, _⟩; omega)]
      exact h2 i (by omega)

theorem and_bit (y : Int) (h : 0 ≤ y ∧ y ≤ 255) (k : Nat) : (bits BinOp.and IntKind.u8 (y / 2 ^ k) 1 == 0) = !(bits BinOp.and IntKind.u8 (y / 2 ^ k) 1 == 1) := by
  have h0 : 0 ≤ y / 2 ^ k := Int.ediv_nonneg h.1 (by exact Int.pow_nonneg (by decide))
  have h1 : y / 2 ^ k ≤ 255 := by
    have : y / 2 ^ k ≤ y := Int.ediv_le_self _ h.1
    omega
  have : ∀ z : Fin 256, (bits BinOp.and IntKind.u8 (z.val : Int) 1 == 0) = !(bits BinOp.and IntKind.u8 (z.val : Int) 1 == 1) := by decide +kernel
  have := this ⟨(y / 2 ^ k).toNat, by omega⟩
  simpa [Int.toNat_of_nonneg h0] using this
theorem rowF_get (live : Nat → Bool) (x : Int) (k : Nat) : ∀ (j : Nat) r, (rowF live x k)[j]? = some r → r.2 = [x] ∧ 0 ≤ r.1 ∧ r.1 < k := by
  induction k with
  | zero => intro j r h; simp [rowF] at h
  | succ k ih =>
    intro j r h
    rw [rowF_succ, List.getElem?_append] at h
    split at h
    · obtain ⟨h1, h2, h3⟩ := ih j r h; exact ⟨h1, h2, by omega⟩
    · split at h
      · have := (List.getElem?_eq_some_iff.1 h).1
        simp at this
        rw [this] at h
        simp at h
        subst h
        exact ⟨rfl, by simp, by simp; omega⟩
      · simp at h
theorem rowF_lt (live : Nat → Bool) (x : Int) (k : Nat) : ∀ (j : Nat) p r, (rowF live x k)[j]? = some p → (rowF live x k)[j + 1]? = some r → p.1 < r.1 := by
  induction k with
  | zero => intro j p r h; simp [rowF] at h
  | succ k ih =>
    intro j p r h1 h2
    rw [rowF_succ, List.getElem?_append] at h1 h2
    by_cases hj : j + 1 < (rowF live x k).length
    · rw [if_pos hj] at h2; rw [if_pos (by omega)] at h1; exact ih j p r h1 h2
    · rw [if_neg hj] at h2
      by_cases hj1 : j < (rowF live x k).length
      · rw [if_pos hj1] at h1
        have := (rowF_get live x k j p h1).2.2
        split at h2
        · have h3 := (List.getElem?_eq_some_iff.1 h2).1
          simp at h3
          rw [h3] at h2
          simp at h2
          subst h2
          exact this
        · simp at h2
      · have h3 := (List.getElem?_eq_some_iff.1 h2).1
        have : (if live k = true then [((k : Int), [x])] else []).length ≤ 1 := by split <;> simp
        omega
theorem rowF_ok (live : Nat → Bool) (x : Int) (hx : 1 ≤ x) : rowsB (rowF live x 8) = true := by
  apply rowsB_true
  intro i hi
  have h0 := List.getElem?_eq_getElem hi
  obtain ⟨h1, h2, h3⟩ := rowF_get live x 8 i _ h0
  have hp : i = 0 ∨ ((rowF live x 8).getD (i - 1) (0, [])).1 < ((rowF live x 8)[i]).1 := by
    cases i with
    | zero => exact Or.inl rfl
    | succ i =>
      right
      have hi' : i < (rowF live x 8).length := by omega
      have := rowF_lt live x 8 i _ _ (List.getElem?_eq_getElem hi') h0
      rw [show i + 1 - 1 = i by omega, List.getD, List.getElem?_eq_getElem hi']
      exact this
  have hc : (cutI [x]).length = 1 := by
    have h1 : (x == 0) = false := by rw [beq_eq_false_iff_ne]; omega
    simp [cutI, h1]
  unfold rowOkAt
  rw [h0]
  simp only
  rw [h1, hc]
  have h3' : ((rowF live x 8)[i]).1 < 8 := h3
  rcases hp with hp | hp
  · subst hp; simp [h2, h3']
  · have hp2 : ((rowF live x 8)[i - 1]?.getD (0, [])).1 < ((rowF live x 8)[i]).1 := by simpa [List.getD] using hp
    simp [h2, h3', hp2]
/-- What the law's first loop carries. -/
structure FinI (W : World) (p : Value) (fin rep : Nat → Bool) (x : Int) (k N : Nat) (D : Nat → Prop) (m : Rep) (l : Value) (vs : List Value) (w : World) : Prop where
  o : GatO p D w N m
  rep : RepF x rep k m
  new : ∀ j, D j → W.heap.size ≤ j
  own : w.ownsRow W.heap.size 35 4 l k vs
  sh : ShC w vs (shK fin k)
  none : ∀ u ∈ vs, u.ownBlock = none
  off : ∀ j, l.ownBlock = some j → ¬ D j
  below : Below W.heap.size W w

set_option maxHeartbeats 4000000 in
theorem gatherFinal_walk {W : World} {b0 b1 b2 : Int} (w0 : (Lit.int .u8 b0).wf = true) (w1 : (Lit.int .u8 b1).wf = true) (w2 : (Lit.int .u8 b2).wf = true) :
    Calls Try.prog 5 #[.int .u8 b0, .int .u8 b1, .int .u8 b2] W fun e W' => e = .returned (.bool true) ∧ Below W.heap.size W W' := by
  simp [Lit.wf, IntKind.min, IntKind.max, IntKind.signed, IntKind.bits] at w0 w1 w2
  obtain ⟨i0, hi, hz0, hz1, hz2⟩ := info_parts Try.shardInfo
  go_enter Try.func5, Try.ntmps5
  go_wp2_with (first
    | (go_at_call 13; refine (awake_any W).mono ?_; rintro e w1 ⟨rfl, hb1⟩; have HB1 := Lib.hid hb1)
    | fail)
  refine (gnew_o w1).mono ?_
  rintro e w2 ⟨p, D0, rfl, hg2, hD0, hb2⟩
  obtain ⟨pb, rfl⟩ := hg2.ptr
  have HB2 := Lib.hid (HB1.out.trans (hb2.mono HB1.out.size))
  obtain ⟨fin, hfin⟩ : ∃ fin : Nat → Bool, ∀ k : Nat, fin k = (bits .and .u8 (b0 / 2 ^ k) 1 == 1) := ⟨_, fun _ => rfl⟩
  obtain ⟨rep, hrep⟩ : ∃ fin : Nat → Bool, ∀ k : Nat, fin k = (bits .and .u8 (b1 / 2 ^ k) 1 == 1) := ⟨_, fun _ => rfl⟩
  have HF2 : Hid (FinI W (.pointer (some ⟨pb, 0, none⟩)) fin rep (b2 + 1) 0 0 D0 (fun _ _ => none) (.slice none 0 0) [] w2) :=
    Lib.hid ⟨hg2, RepF.zero _ _, fun k hk => by have := hD0 k hk; have := HB1.out.size; omega, World.ownsRow_nil _ _ _ _, ShC.nil _, by simp, (fun j hj => by cases hj), HB2.out⟩
  have HFin := Lib.hid hfin
  have HRep := Lib.hid hrep
  clear hg2 hb2 hD0 hfin hrep
  go_wp2_with fail
  go_loopw [10, 9] (fun i l wr => ∃ (k N : Nat) (D : Nat → Prop) (m : Rep) (vs : List Value), k ≤ 8 ∧ N ≤ 2 * k ∧ i = .int .i64 k ∧ FinI W (.pointer (some ⟨pb, 0, none⟩)) fin rep (b2 + 1) k N D m l vs wr) (fun i _ _ => 8 - (intOf i).toNat)
  case atStart => exact ⟨0, 0, D0, _, [], by omega, by omega, rfl, HF2.out⟩
  case round =>
    obtain ⟨k, N, D, m, vs, hk, hN, rfl, hfi⟩ := hrel
    have HI := Lib.hid hfi
    obtain ⟨lo, lc, hle, hlc1, hlc2⟩ := own_form hfi.own
    subst hle
    by_cases hlt : k < 8
    · have HOwn := Lib.hid hfi.own
      have hsz := hfi.below.size
      obtain ⟨f, hf⟩ : ∃ f, f = fin k := ⟨_, rfl⟩
      obtain ⟨r, hr⟩ : ∃ r, r = rep k := ⟨_, rfl⟩
      have e0 : (bits BinOp.and IntKind.u8 (b0 / 2 ^ k) 1 == 1) = f := by rw [hf]; exact (HFin.out k).symm
      have e1 : (bits BinOp.and IntKind.u8 (b1 / 2 ^ k) 1 == 1) = r := by rw [hr]; exact (HRep.out k).symm
      have HFk := Lib.hid hf
      have HRk := Lib.hid hr
      have hNl : k ≤ 1099511627776 := by omega
      have hu1 : ∀ u ∈ (#[.int .i64 k, .int .i64 2, .slice none 0 0, .bool f] : Array Value).toList, u.oneCell' = true := by
        intro u hu; simp at hu; rcases hu with rfl | rfl | rfl | rfl <;> rfl
      have Hu1 := Lib.hid hu1
      have hfin1 : ∀ g cap w7, w7.ownsRow W.heap.size 35 4 (.slice (some ⟨g, 0, none⟩) (k + 1) cap) (k + 1) (vs ++ [.int .i64 k, .int .i64 2, .slice none 0 0, .bool f]) →
          (wr.alloc (.cells #[.int .i64 k, .int .i64 2, .slice none 0 0, .bool f] 35)).grownBy w7 (Value.slice lo k lc).ownBlock →
          ((Value.slice lo k lc).ownBlock = some g ∨ g = wr.heap.size + 1) →
          GatO (.pointer (some ⟨pb, 0, none⟩)) D w7 N m ∧ ShC w7 (vs ++ [.int .i64 k, .int .i64 2, .slice none 0 0, .bool f]) (shK fin (k + 1)) ∧ ¬ D g ∧ Below W.heap.size W w7 := by
        intro g cap w7 hown7 hg7 hor7
        have hI := HI.out
        have hkp : Keep (fun j => (Value.slice lo k lc).ownBlock = some j) wr w7 := (Below.keep0 _ ((Below.refl _ _).alloc (Nat.le_refl _) (.cells #[.int .i64 k, .int .i64 2, .slice none 0 0, .bool f] 35))).trans (Keep.grown hg7 (fun j hj => hj))
        refine ⟨hI.o.keep hkp (fun j hj hd => hI.off j hj hd), ?_, fun hd => ?_, hI.below.trans (hkp.below hI.below.size (fun j hj => (hI.own.lt j hj).1))⟩
        · rw [shK_succ]
          have hs := hI.sh.keep hkp (fun u hu j hj => by rw [hI.none u hu] at hj; cases hj)
          have := hs.snoc (s := ⟨k, 2, [], fin k⟩) (sv := .slice none 0 0) (SlR.nil _)
          rw [← hf] at this
          rw [← hf]
          exact this
        · rcases hor7 with h | h
          · exact hI.off g h hd
          · have := hI.o.lt g hd; omega
      have HFin1 := Lib.hid hfin1
      clear hfi hfin1 hu1 hf hr
      go_wp2_with (first
        | (at_builtin; refine wpList_appS rfl (.tmp 23) (.tmp 32) 42 rfl W.heap.size 35 i0 _ 4 48 Try.underlying42 hi hz0 hz1 hz2 rfl (by decide) (by decide) rfl rfl (by simp) rfl HOwn.out Hu1.out hNl hsz ?_
           intro g cap w7 hown7 hg7 hor7
           obtain ⟨ho7, hs7, hd7, hb7⟩ := HFin1.out g cap w7 hown7 hg7 hor7
           have HO7 := Lib.hid ho7
           have HS7 := Lib.hid hs7
           have HD7 := Lib.hid hd7
           have HB7 := Lib.hid hb7
           have HW7 := Lib.hid hown7
           clear ho7 hs7 hd7 hb7 hown7 hg7 hor7)
        | fail)
      have hb8 := below_lit w7 (.cells (u64s [b2 + 1]).toArray 39)
      have HO8 := Lib.hid (HO7.out.step hb8)
      have hbs7 := HB7.out.size
      have HK8 : Hid (∀ (w9 : World) (D9 : Nat → Prop) (m9 : Rep) (N9 : Nat), Keep D (w7.alloc (.cells (u64s [b2 + 1]).toArray 39)) w9 → (∀ j, D9 j → D j ∨ (w7.alloc (.cells (u64s [b2 + 1]).toArray 39)).heap.size ≤ j) → GatO (.pointer (some ⟨pb, 0, none⟩)) D9 w9 N9 m9 →
          w9.ownsRow W.heap.size 35 4 (.slice (some ⟨g, 0, none⟩) (k + 1) cap) (k + 1) (vs ++ [.int .i64 k, .int .i64 2, .slice none 0 0, .bool f]) ∧ ShC w9 (vs ++ [.int .i64 k, .int .i64 2, .slice none 0 0, .bool f]) (shK fin (k + 1)) ∧ (∀ j, D9 j → W.heap.size ≤ j) ∧ ¬ D9 g ∧ Below W.heap.size W w9) := Lib.hid (by
        intro w9 D9 m9 N9 hk hd ho
        have hg := HW7.out.lt g rfl
        have hkp : Keep D w7 w9 := (Below.keep0 D hb8).trans hk
        have hnew := HI.out.new
        have hn9 : ∀ j, D9 j → W.heap.size ≤ j := fun j hj => by
          rcases hd j hj with h | h
          · exact hnew j h
          · simp at h; omega
        refine ⟨own_keep HW7.out (fun b hb => hkp.block b (HW7.out.lt b hb).2 (by cases hb; exact HD7.out)), ?_, hn9, fun h => ?_, HB7.out.trans (hkp.below hbs7 hnew)⟩
        · refine HS7.out.keep hkp (fun u hu j hj => ?_)
          simp at hu
          rcases hu with hu | rfl | rfl | rfl | rfl
          · rw [HI.out.none u hu] at hj; cases hj
          all_goals cases hj
        · rcases hd g h with h | h
          · exact HD7.out h
          · simp at h; omega)
      have hnone : ∀ u ∈ vs ++ [.int .i64 k, .int .i64 2, .slice none 0 0, .bool f], Value.ownBlock u = none := by
        intro u hu
        simp at hu
        rcases hu with hu | rfl | rfl | rfl | rfl
        · exact HI.out.none u hu
        all_goals rfl
      have HNone := Lib.hid hnone
      clear hb8 hnone
      refine (HO8.out.report (lit_u64 w7 [b2 + 1] _ _ (by simp)) (by simp) ⟨by omega, by omega⟩ (by decide) (by omega)).mono ?_
      rintro e w9 ⟨rfl, D9, ho9, hd9, hk9⟩
      have hx1 : 1 ≤ b2 + 1 := by omega
      obtain ⟨m1, m2⟩ := HI.out.rep.more hx1
      rw [← HRk.out] at m1 m2
      obtain ⟨a1, a2, a3, a4, a5⟩ := HK8.out w9 D9 _ _ hk9 hd9 ho9
      have hoff9 : ∀ j, (Value.slice (some ⟨g, 0, none⟩) (k + 1) cap).ownBlock = some j → ¬ D9 j := fun j hj => by cases hj; exact a4
      cases r with
      | false =>
        have HX : Hid (FinI W (.pointer (some ⟨pb, 0, none⟩)) fin rep (b2 + 1) (k + 1) (N + 1) D9 (repG m k 0 [b2 + 1]) (.slice (some ⟨g, 0, none⟩) (k + 1) cap) (vs ++ [.int .i64 k, .int .i64 2, .slice none 0 0, .bool f]) w9) := Lib.hid ⟨ho9, m1 rfl, a3, a1, a2, HNone.out, hoff9, a5⟩
        clear ho9 hd9 hk9 m1 m2 a1 a2 a3 a4 a5 hoff9
        go_wp2_with fail
        go_roundw
        case rel => exact ⟨k + 1, N + 1, _, _, _, by omega, by omega, by go_num, HX.out⟩
        case measure => simp [intOf]; omega
      | true =>
        have HM2 := Lib.hid (m2 rfl)
        have HO9 := Lib.hid ho9
        have A1 := Lib.hid a1
        have A2 := Lib.hid a2
        have A3 := Lib.hid a3
        have A4 := Lib.hid a4
        have A5 := Lib.hid a5
        clear ho9 hd9 hk9 m1 m2 a1 a2 a3 a4 a5 hoff9
        go_wp2_with fail
        have hb10 := below_lit w9 (.cells (u64s [b2 + 2]).toArray 39)
        refine ((HO9.out.step hb10).report (lit_u64 w9 [b2 + 2] _ _ (by simp)) (by simp) ⟨by omega, by omega⟩ (by decide) (by omega)).mono ?_
        rintro e w11 ⟨rfl, D11, ho11, hd11, hk11⟩
        have hkp : Keep D9 w9 w11 := (Below.keep0 D9 hb10).trans hk11
        have hg9 := A1.out.lt g rfl
        have hX : FinI W (.pointer (some ⟨pb, 0, none⟩)) fin rep (b2 + 1) (k + 1) (N + 2) D11 (repG (repG m k 0 [b2 + 1]) k 1 [b2 + 1 + 1]) (.slice (some ⟨g, 0, none⟩) (k + 1) cap) (vs ++ [.int .i64 k, .int .i64 2, .slice none 0 0, .bool f]) w11 := by
          refine ⟨?_, HM2.out, fun j hj => ?_, own_keep A1.out (fun b hb => hkp.block b (A1.out.lt b hb).2 (by cases hb; exact A4.out)), A2.out.keep hkp (fun u hu j hj => by rw [HNone.out u hu] at hj; cases hj), HNone.out, fun j hj hd => ?_, A5.out.trans (hkp.below A5.out.size A3.out)⟩
          · rw [show b2 + 1 + 1 = b2 + 2 by omega]; exact ho11
          · rcases hd11 j hj with h | h
            · exact A3.out j h
            · have := A5.out.size; simp at h; omega
          · cases hj
            rcases hd11 g hd with h | h
            · exact A4.out h
            · simp at h; omega
        have HX := Lib.hid hX
        clear ho11 hd11 hk11 hkp hX hb10
        go_wp2_with fail
        go_roundw
        case rel => exact ⟨k + 1, N + 2, _, _, _, by omega, by omega, by go_num, HX.out⟩
        case measure => simp [intOf]; omega
    · have hk8 : k = 8 := by omega
      subst hk8
      clear hfi
      have HSh := Lib.hid (ShL.of_own HI.out.own HI.out.sh)
      have HCut := Lib.hid (HI.out.rep.cut (fin := fin) (by omega) 8 (by omega))
      go_wp2_with fail
      refine (HI.out.o.cut HSh.out ?_ (by rw [shK_len]; omega)).mono ?_
      · intro s hs
        obtain ⟨i, hi, rfl⟩ := List.mem_map.1 hs
        have := List.mem_range.1 hi
        exact ⟨⟨by simp, by simp; omega⟩, by simp, by simp, by simp⟩
      rintro e w4 ⟨rv, rfl, hrv, hb4⟩
      rw [HCut.out] at hrv ⊢
      have hB4 := HI.out.below.trans (hb4.mono HI.out.below.size)
      obtain ⟨live, hlv⟩ : ∃ live : Nat → Bool, live = fun i => !fin i && rep i := ⟨_, rfl⟩
      rw [← hlv] at hrv ⊢
      obtain ⟨ro, rc, rfl, hrc1, hrc2, _⟩ := id hrv
      have hb5 := below_lit w4 (.cells (cmdC 4 0 0 0 0 0 (.slice ro (rowF live (b2 + 1) 8).length rc)) 46)
      have hblk := heap_alloc_new w4 (.cells (cmdC 4 0 0 0 0 0 (.slice ro (rowF live (b2 + 1) 8).length rc)) 46)
      have hrv5 := hrv.below hb5 (Nat.le_refl _)
      have HAt : Hid (∀ k : Nat, k < 8 → live k = true → (rowF live (b2 + 1) 8)[(rowF live (b2 + 1) k).length]? = some ((k : Int), [b2 + 1])) := Lib.hid (fun k => rowF_at live (b2 + 1) k)
      have hok := rowF_ok live (b2 + 1) (by omega)
      have hn8 := rowF_len live (b2 + 1) 8
      obtain ⟨rows, hrows⟩ : ∃ rows, rows = rowF live (b2 + 1) 8 := ⟨_, rfl⟩
      have hrl : ∀ k : Nat, (rowF live (b2 + 1) (k + 1)).length = (rowF live (b2 + 1) k).length + (if live k = true then 1 else 0) := fun k => by
        rw [rowF_succ, List.length_append]; split <;> rfl
      have HRl := Lib.hid hrl
      have hr8 : rows.length = (rowF live (b2 + 1) 8).length := by rw [hrows]
      have HR8 := Lib.hid hr8
      rw [← hrows] at hb5 hblk hrv5 HAt hok hn8 hrc1
      rw [← hrows]
      have HOk := Lib.hid hok
      have HLv := Lib.hid hlv
      obtain ⟨n, hn⟩ : ∃ n, n = rows.length := ⟨_, rfl⟩
      have HN := Lib.hid hn
      rw [← hn] at hb5 hblk hrv5 hrc1 hn8
      rw [← hn]
      have HRv5 := Lib.hid hrv5
      have HB5 := Lib.hid (hB4.trans (hb5.mono hB4.size))
      have cellOf : ∀ (o : Nat) (u : Value), (cmdC 4 0 0 0 0 0 (.slice ro n rc)).toList[o]? = some u → (w4.alloc (.cells (cmdC 4 0 0 0 0 0 (.slice ro n rc)) 46)).cell? ⟨w4.heap.size, o, none⟩ = some u := fun o u hu => by
        simp only [World.cell?, hblk]; simpa using hu
      have c0 := cellOf 0 _ rfl
      have c1 := cellOf 1 _ rfl
      have c2 := cellOf 2 _ rfl
      have c3 := cellOf 3 _ rfl
      have c4 := cellOf 4 _ rfl
      have c5 := cellOf 5 _ rfl
      have c6 := cellOf 6 _ rfl
      have HLen : Hid (∀ k : Nat, (rowF live (b2 + 1) k).length ≤ k) := Lib.hid (fun k => rowF_len live (b2 + 1) k)
      obtain ⟨at', hat⟩ : ∃ f : Nat → Nat, f = fun k => (rowF live (b2 + 1) k).length := ⟨_, rfl⟩
      have HAt' : Hid (∀ k : Nat, k < 8 → live k = true → rows[at' k]? = some ((k : Int), [b2 + 1])) := Lib.hid (by rw [hat]; exact HAt.out)
      have HRl' : Hid (∀ k : Nat, at' (k + 1) = at' k + (if live k = true then 1 else 0)) := Lib.hid (by rw [hat]; exact HRl.out)
      have HA8 : Hid (at' 8 = n) := Lib.hid (by rw [hat, HN.out]; exact HR8.out.symm)
      have HA0 : Hid (at' 0 = 0) := Lib.hid (by rw [hat]; rfl)
      have HAl : Hid (∀ k, at' k ≤ k) := Lib.hid (by rw [hat]; exact HLen.out)
      clear hrv hb4 hB4 hb5 hblk hrv5 HAt hok hrl HRl hr8 HR8 hn HLen hat cellOf hlv hrows
      go_wp2_with fail
      go_loop [14, 13] (fun i a => ∃ k : Nat, k ≤ 8 ∧ i = .int .i64 k ∧ a = .int .i64 (at' k)) (fun i _ => 8 - (intOf i).toNat)
      case atStart => exact ⟨0, by omega, rfl, by rw [HA0.out]; rfl⟩
      case round =>
        obtain ⟨k, hk, rfl, rfl⟩ := hrel
        by_cases hlt : k < 8
        · obtain ⟨f, hf⟩ : ∃ f, f = fin k := ⟨_, rfl⟩
          obtain ⟨r, hr⟩ : ∃ r, r = rep k := ⟨_, rfl⟩
          have e0 : (bits BinOp.and IntKind.u8 (b0 / 2 ^ k) 1 == 1) = f := by rw [hf]; exact (HFin.out k).symm
          have e1 : (bits BinOp.and IntKind.u8 (b1 / 2 ^ k) 1 == 0) = !r := by rw [and_bit b1 (by assumption), hr, HRep.out k]
          have hlive : live k = (!f && r) := by rw [HLv.out, hf, hr]
          have hstep := HRl'.out k
          have hak := HAl.out k
          have hrow := HAt'.out k hlt
          obtain ⟨a, ha⟩ : ∃ a, a = at' k := ⟨_, rfl⟩
          rw [← ha] at hstep hak hrow
          rw [← ha]
          have HSt := Lib.hid hstep
          have HRw := Lib.hid hrow
          have HLiv := Lib.hid hlive
          clear hf hr hstep hrow hlive ha
          cases f with
          | true =>
            go_wp2_with fail
            go_round
            case rel => exact ⟨k + 1, by omega, by go_num, by rw [HSt.out, HLiv.out]; simp⟩
            case measure => simp [intOf]; omega
          | false =>
            cases r with
            | false =>
              go_wp2_with fail
              go_round
              case rel => exact ⟨k + 1, by omega, by go_num, by rw [HSt.out, HLiv.out]; simp⟩
              case measure => simp [intOf]; omega
            | true =>
              have hrow := HRw.out (by rw [HLiv.out]; rfl)
              have han : a < n := by rw [HN.out]; exact (List.getElem?_eq_some_iff.1 hrow).1
              obtain ⟨ad, so, sc, rfl, q0, q1, hs, hs1, hs2⟩ := HRv5.out.at a _ hrow
              obtain ⟨sa0, sc0, hse, _, _, hx⟩ := hs.ints
              cases hse
              obtain ⟨sa, rfl, hs0⟩ := hx 0 (by simp)
              have hs0 : (w4.alloc (.cells (cmdC 4 0 0 0 0 0 (.slice (some ad) n rc)) 46)).cell? sa = some (.int .u64 (b2 + 1)) := by simpa [Addr.add] using hs0
              have hai : (a : Int) < (n : Int) := by omega
              have had : decide ((n : Int) ≤ (a : Int)) = false := decide_eq_false (by omega)
              have hb2 : b2 + 1 ≤ 18446744073709551615 := by omega
              simp only [List.length_cons, List.length_nil, Nat.zero_add] at q1 hs1
              clear hx hs hrow
              go_wp2_with fail
              go_round
              case rel => exact ⟨k + 1, by omega, by go_num, by rw [HSt.out, HLiv.out]; simp⟩
              case measure => simp [intOf]; omega
        · have hk8 : k = 8 := by omega
          subst hk8
          rw [HA8.out]
          clear hlt hk
          have hn8' : (n : Int) ≤ 8 := by omega
          by_cases hn0 : 0 < n
          · have d1 : decide (0 < n) = true := decide_eq_true hn0
            have d2 : decide ((0 : Int) < (n : Int)) = true := decide_eq_true (by omega)
            have hchk := check_ok (c := ⟨4, 0, 0, 0, 0, 0, rows⟩) HRv5.out (by rw [← HN.out]; omega) (by unfold checkA; simp [HOk.out, fitsB, hasW, hasS, hasG, hasP, hasR]) rfl rfl
            have HChk := Lib.hid hchk
            clear hchk
            go_wp2_with (go_at_call 22; refine HChk.out.mono ?_; rintro e w' ⟨rfl, hb6⟩; have HB6 := Lib.hid (HB5.out.trans (hb6.mono HB5.out.size)))
            go_ret
            exact ⟨by simp, HB6.out⟩
          · have d1 : decide (0 < n) = false := decide_eq_false (by omega)
            have d2 : decide ((0 : Int) < (n : Int)) = false := decide_eq_false (by omega)
            clear hn0
            go_wp2_with fail
            go_ret
            exact ⟨by simp, HB5.out⟩

theorem gatherFinal_holds : Rows.GatherFinalSaid :=
  OpenClaim.holds_of_wide 5 Try.f5 rfl rfl rfl rfl rfl rfl rfl ⟨rfl, rfl, rfl, rfl, rfl⟩ rfl rfl rfl rfl rfl (by kernel_rfl) Try.func5 (by kernel_rfl)
    (of_decide_eq_true (by kernel_rfl)) (by unfold Func.isWrapper; rw [if_neg (by decide +kernel)]; exact ⟨rfl, rfl⟩)
    (fun os started H enc _ => law_frame (C := Try.checked) (fn := Try.f5) (s := Rows.gatherFinalSpec) (tb := 4) Try.own started (by kernel_rfl) Try.func5 Try.laidOut rfl (by kernel_rfl) Try.underlying4 (by kernel_rfl)
      (fun ds hd => by match ds, hd with | [_, _, _], _ => exact ⟨rfl, rfl, rfl⟩)
      (ChangeSpec.witness6 (enc := enc) (C := Try.checked) false ⟨#[], #[.int .u8 0, .int .u8 0, .int .u8 0], []⟩ 8 (by kernel_rfl) (by kernel_rfl) (by kernel_rfl) (by kernel_rfl))
      (fun W base args ds p hval0 hA0 _ => by
        have hval : ∀ (j : Nat) t v, Try.f5.params[j]? = some t → args[j]? = some v → Value.okWide Try.prog W .any base t v := hval0
        have hA : DataW.TrodAll enc Try.prog W 0 (fun _ => true) true Try.f5.params.toList args.toList ds p := hA0
        rw [Try.params5] at hA hval
        obtain ⟨v0, v1, v2, d0, d1, d2, p0, p1, p2, rfl, rfl, rfl, h0, h1, h2⟩ := trodAll_three hA
        obtain ⟨x0, rfl, rfl, rfl, wx0⟩ := open_int Try.underlying5 (hval 0 5 v0 rfl rfl) h0
        obtain ⟨x1, rfl, rfl, rfl, wx1⟩ := open_int Try.underlying5 (hval 1 5 v1 rfl rfl) h1
        obtain ⟨x2, rfl, rfl, rfl, wx2⟩ := open_int Try.underlying5 (hval 2 5 v2 rfl rfl) h2
        exact gatherFinal_walk wx0 wx1 wx2))

end Go.Proofs.Ytabanackdjlcmaa
