/-
  Contracts of package vec, the rest: what is made of all rows (Min, Max, Less), sums.
-/
import Derived.Test.YtabanackdjlcmaaVec
namespace Go.Proofs.Ytabanackdjlcmaa
open Go.RowKit
set_option maxRecDepth 100000

/-- A slice of slices that reads as rows of numbers. -/
def RowsR (w : World) (v : Value) (L : List (List Int)) : Prop :=
  ∃ ao c, v = .slice ao L.length c ∧ L.length ≤ c ∧ c ≤ maxLen ∧ ∀ (i : Nat) r, L[i]? = some r → ∃ a u, ao = some a ∧ w.cell? (a.add i) = some u ∧ SlR w u (u64s r)

theorem RowsR.below {B : Nat} {w w' : World} {v : Value} {L : List (List Int)} (hb : Below B w w') (hB : w.heap.size ≤ B) (h : RowsR w v L) : RowsR w' v L := by
  obtain ⟨ao, c, h1, h2, h3, h4⟩ := h
  refine ⟨ao, c, h1, h2, h3, fun i r hr => ?_⟩
  obtain ⟨a, u, e, hc, hs⟩ := h4 i r hr
  refine ⟨a, u, e, ?_, hs.below hb hB⟩
  have := World.block_lt_of_cell? w _ hc
  rw [hb.cell (by omega)]
  exact hc

theorem combI_length (op : Int → Int → Int) (a b : List Int) : (combI op a b).length = max a.length b.length := by simp [combI]
/-- The row while it is made: the first places are done. -/
def midI (op : Int → Int → Int) (xs r : List Int) (m : Nat) : List Int := (combI op xs r).take m ++ (xs ++ List.replicate (r.length - xs.length) 0).drop m

theorem pad_length (xs r : List Int) : (xs ++ List.replicate (r.length - xs.length) (0 : Int)).length = max xs.length r.length := by simp; omega
theorem midI_length (op : Int → Int → Int) (xs r : List Int) (m : Nat) (hm : m ≤ max xs.length r.length) : (midI op xs r m).length = max xs.length r.length := by
  unfold midI
  rw [List.length_append, List.length_take, combI_length, List.length_drop, pad_length]; omega
theorem pad_get (xs : List Int) (n m : Nat) (hm : m < (xs ++ List.replicate n (0 : Int)).length) : (xs ++ List.replicate n (0 : Int))[m] = atI xs m := by
  unfold atI
  rw [if_pos (by omega), Int.toNat_natCast, List.getElem_append]
  split
  · rename_i h; simp [List.getD, h]
  · rename_i h; rw [List.getElem_replicate, List.getD, List.getElem?_eq_none (by omega)]; rfl
theorem midI_at (op : Int → Int → Int) (xs r : List Int) (m : Nat) (hm : m < max xs.length r.length) : (midI op xs r m)[m]? = some (atI xs m) := by
  unfold midI
  have e : ((combI op xs r).take m).length = m := by rw [List.length_take, combI_length]; omega
  rw [List.getElem?_append_right (by omega), e, Nat.sub_self, List.getElem?_drop, Nat.add_zero, List.getElem?_eq_getElem (by rw [pad_length]; exact hm), pad_get]
theorem midI_succ (op : Int → Int → Int) (xs r : List Int) (m : Nat) (hm : m < max xs.length r.length) : (midI op xs r m).set m (op (atI xs m) (atI r m)) = midI op xs r (m + 1) := by
  unfold midI
  have hc : m < (combI op xs r).length := by rw [combI_length]; exact hm
  have hp : m < (xs ++ List.replicate (r.length - xs.length) (0 : Int)).length := by rw [pad_length]; exact hm
  have e : ((combI op xs r).take m).length = m := by rw [List.length_take]; omega
  rw [List.set_append_right _ _ (by omega), e, Nat.sub_self, List.drop_eq_getElem_cons hp, List.set_cons_zero, List.take_succ_eq_append_getElem hc, List.append_assoc]
  simp [combI]
theorem midI_end (op : Int → Int → Int) (xs r : List Int) : midI op xs r (max xs.length r.length) = combI op xs r := by
  unfold midI
  rw [List.take_of_length_le (by rw [combI_length]; omega), List.drop_eq_nil_of_le (by rw [pad_length]; omega), List.append_nil]
theorem midI_zero (op : Int → Int → Int) (xs r : List Int) : midI op xs r 0 = xs ++ List.replicate (r.length - xs.length) 0 := by simp [midI]

theorem foldI_take_succ (op : Int → Int → Int) (L : List (List Int)) (k : Nat) (h : k < L.length) :
    foldI op (L.take (k + 1)) = if k = 0 then L[k] else combI op (foldI op (L.take k)) L[k] := by
  rw [List.take_succ_eq_append_getElem h]
  cases L with
  | nil => simp at h
  | cons v r => cases k with
    | zero => simp [foldI]
    | succ k =>
      have hk : k < r.length := by simpa using h
      rw [← List.take_succ_eq_append_getElem h]
      simp only [List.take_succ_cons, foldI, List.getElem_cons_succ, if_neg (Nat.succ_ne_zero k)]
      rw [List.take_succ_eq_append_getElem hk, List.foldl_append]
      rfl

theorem foldI_length (op : Int → Int → Int) (L : List (List Int)) (n : Nat) (h : ∀ r ∈ L, r.length ≤ n) : (foldI op L).length ≤ n := by
  cases L with
  | nil => simp [foldI]
  | cons v r =>
    simp only [foldI]
    have hv := h v (by simp)
    have hr : ∀ x ∈ r, x.length ≤ n := fun x hx => h x (by simp [hx])
    clear h
    induction r generalizing v with
    | nil => simpa using hv
    | cons x r ih => exact ih _ (by rw [combI_length]; have := hr x (by simp); omega) (fun y hy => hr y (by simp [hy]))

set_option maxHeartbeats 400000 in
theorem fold_any (f : FuncId) (op : Int → Int → Int)
    (hf : ∀ x y w, Calls Try.prog f #[.int .u64 x, .int .u64 y] w fun e w' => e = .returned (.int .u64 (op x y)) ∧ w = w')
    (hcf : ∀ args w, Sem.run Try.prog (callFunc f args) w = .ok (.enter f args) w)
    {v : Value} {L : List (List Int)} {w : World} (h : RowsR w v L) (hlen : ∀ r ∈ L, r.length ≤ 1048576) :
    Calls Try.prog 57 #[.func (.func f) #[] #[], v] w (RetOwn w 39 (u64s (cutI (foldI op L)))) := by
  have Hf := Lib.hid hf
  obtain ⟨ao, c, rfl, hc, hm, hx⟩ := h
  obtain ⟨i0, hi, hz0, hz1, hz2⟩ := info_parts Try.vecInfo
  clear hf
  unfold maxLen at hm
  go_enter Try.func57, Try.ntmps57
  go_wp2
  go_loopw [11, 5] (fun i o wr => ∃ k : Nat, k ≤ L.length ∧ i = .int .i64 k ∧ wr.ownsRow w.heap.size 39 1 o (foldI op (L.take k)).length (u64s (foldI op (L.take k))) ∧ Below w.heap.size w wr) (fun i _ _ => L.length - (intOf i).toNat)
  case atStart => exact ⟨0, by omega, rfl, by simpa [foldI] using World.ownsRow_nil _ _ _ _, Below.refl _ _⟩
  case round =>
    obtain ⟨k, hk, rfl, hown, hbl⟩ := hrel
    have HO := Lib.hid hown
    have HB := Lib.hid hbl
    have hfl := foldI_length op (L.take k) 1048576 (fun r hr => hlen r (List.mem_of_mem_take hr))
    clear hown hbl
    by_cases hlt : k < L.length
    · obtain ⟨a, vk, rfl, hcell, hrow⟩ := hx k L[k] (List.getElem?_eq_getElem hlt)
      have hcell' : wr.cell? (a.add k) = some vk := by rw [HB.out.cell (World.block_lt_of_cell? w _ hcell)]; exact hcell
      have HRw := Lib.hid hrow
      have hrow := hrow.below HB.out (Nat.le_refl _)
      clear hcell hx
      have HR := Lib.hid hrow
      have hstep := foldI_take_succ op L k hlt
      have hrl := hlen L[k] (List.getElem_mem hlt)
      generalize L[k] = r at *
      obtain ⟨bo, cb, rfl, hcb, hmb, _⟩ := hrow
      simp only [List.length_map] at *
      have HS := Lib.hid hstep
      clear hstep
      by_cases hk0 : k = 0
      · subst hk0
        have hcell0 : wr.cell? a = some (.slice bo r.length cb) := by simpa [Addr.add] using hcell'
        go_wp2_with (go_at_call 51; refine (clone_any HR.out (by omega)).mono ?_; rintro e w' ⟨v', rfl, hown, hb⟩)
        go_roundw
        case rel => exact ⟨1, by omega, by go_num, by rw [HS.out]; simpa using hown.weaken HB.out.size, HB.out.trans (hb.mono HB.out.size)⟩
        case measure => simp [intOf]; omega
      · have hk0' : ((k : Int) == 0) = false := by simp; omega
        obtain ⟨xs, hxs⟩ : ∃ xs, xs = foldI op (L.take k) := ⟨_, rfl⟩
        rw [← hxs] at HO hfl
        have HX := Lib.hid hxs
        clear hxs
        obtain ⟨wo, rfl⟩ : ∃ wo : World, wo = wr := ⟨_, rfl⟩
        go_wp2_with fail
        go_loopw [5] (fun o wr => ∃ j : Nat, xs.length + j ≤ max xs.length r.length ∧ wr.ownsRow w.heap.size 39 1 o (xs.length + j) (u64s (xs ++ List.replicate j 0)) ∧ Below w.heap.size w wr) (fun o _ => max xs.length r.length - lenOf o)
        case atStart => exact ⟨0, by omega, by simpa using HO.out, HB.out⟩
        case round =>
          obtain ⟨j, hj, hown, hbl⟩ := hrel
          have HO2 := Lib.hid hown
          have HB2 := Lib.hid hbl
          obtain ⟨ao', c', rfl, hc1, hc2⟩ := own_slice hown
          have hc2' := hc2
          unfold maxLen at hc2
          clear hown hbl
          by_cases h2 : xs.length + j < r.length
          · obtain ⟨cs, hcs⟩ : ∃ cs, cs = u64s (xs ++ List.replicate j 0) := ⟨_, rfl⟩
            have e1 : cs ++ [.int .u64 0] = u64s (xs ++ List.replicate (j + 1) 0) := by rw [hcs]; simp [List.replicate_succ']
            rw [← hcs] at HO2
            have E1 := Lib.hid e1
            clear hcs e1
            go_wp2_with (at_builtin; refine wpList_append_own _ rfl (.tmp 25) (.tmp 26) 27 rfl w.heap.size 39 i0 (.int .u64 0) 1 8 Try.underlying27 hi hz0 hz1 hz2 rfl (by decide) _ (xs.length + j) cs rfl (HO2.out.alloc _) ⟨wr.heap.size, 0, none⟩ 1 1 [.int .u64 0] rfl rfl (lit_one _ _ _) (by intro u hu; simp at hu; subst hu; rfl) (by unfold maxLen; omega) (by omega) (by have := HB2.out.size; simp; omega) ?_)
            intro v' w' hown hg _
            have hb' : Below w.heap.size w w' := (HB2.out.alloc HB2.out.size _).grown hg (by have := HB2.out.size; simp; omega) (own_block HO2.out)
            have hown := Lib.hid hown
            have hlo := hown.out
            obtain ⟨ao2, c2, rfl, _, _⟩ := own_slice hlo
            clear hg hlo
            go_wp2
            go_roundw
            case rel => exact ⟨j + 1, by omega, by rw [← E1.out]; exact hown.out, hb'⟩
            case measure => simp [lenOf]; omega
          · obtain ⟨M, hM⟩ : ∃ M, M = xs.length + j := ⟨_, rfl⟩
            have hMx : M = max xs.length r.length := by omega
            have hjr : j = r.length - xs.length := by omega
            have hM9 : M ≤ 9223372036854775807 := by omega
            rw [hjr, ← midI_zero op, ← hjr, ← hM] at HO2
            have hMr : r.length ≤ M := by omega
            rw [← hM]
            have HM := Lib.hid hMx
            obtain ⟨w2, rfl⟩ : ∃ w2 : World, w2 = wr := ⟨_, rfl⟩
            clear hMx hjr hj hcell'
            rw [← hM] at h2 hc1
            clear hM
            go_wp2_with fail
            go_loopw [30] (fun i wr => ∃ m : Nat, m ≤ M ∧ i = .int .i64 m ∧ wr.ownsRow w.heap.size 39 1 (.slice ao' M c') M (u64s (midI op xs r m)) ∧ Below w.heap.size w wr) (fun i _ => M - (intOf i).toNat)
            case atStart => exact ⟨0, by omega, rfl, HO2.out, HB2.out⟩
            case round =>
              obtain ⟨m, hm1, rfl, hown, hbl⟩ := hrel
              have HO3 := Lib.hid hown
              have HB3 := Lib.hid hbl
              by_cases h3 : m < M
              · obtain ⟨g, c2, hv, hg⟩ := own_pos hown (by omega)
                cases hv
                have hlt3 : m < max xs.length r.length := by rw [← HM.out]; exact h3
                have hcm : wr.cell? ⟨g, m, none⟩ = some (.int .u64 (atI xs m)) := by
                  rw [hown.cellAt m (by omega), List.getElem?_map, midI_at op xs r m hlt3]; rfl
                have hfz : wr.frozen? ⟨g, m, none⟩ = false := hown.frozenAt m
                have hst := (hown.stored m (.int .u64 (op (atI xs m) (atI r m)))).1
                have est : (u64s (midI op xs r m)).set m (.int .u64 (op (atI xs m) (atI r m))) = u64s (midI op xs r (m + 1)) := by
                  rw [← midI_succ op xs r m hlt3]; simp [u64s, List.map_set]
                rw [est] at hst
                have HT := Lib.hid hst
                have hbs : Below w.heap.size w (wr.setCell ⟨g, m, none⟩ (.int .u64 (op (atI xs m) (atI r m)))) := hbl.setCell hg _
                clear hst est hown hbl
                have hAt := fun (w' : World) (hw : Below w.heap.size w w') => at_any (i := (m : Int)) (HRw.out.below hw (Nat.le_refl _))
                have HAt := Lib.hid hAt
                clear hAt
                go_wp2_with fail
                refine wp_region_still_tail 12 (by kernel_rfl) (by kernel_rfl) ?_
                simp only [List.take_succ_cons, List.take_zero, List.drop_succ_cons, List.drop_zero]
                repeat still_step
                still_call ((HAt.out _ HB3.out.drew).mono fun _ _ h => ⟨h.1, h.2.symm⟩)
                still_call ((Hf.out _ _ _).mono fun _ _ h => ⟨h.1, h.2.symm⟩)
                repeat still_step
                refine wpStill_nil ?_
                go_wp2
                go_roundw
                case rel => exact ⟨m + 1, by omega, by go_num, HT.out.drew, hbs.drew⟩
                case measure => simp [intOf]; omega
              · have hmM : m = M := by omega
                subst hmM
                have e2 : midI op xs r m = foldI op (L.take (k + 1)) := by
                  rw [HM.out, midI_end, HS.out, if_neg hk0, HX.out]
                have e3 : (foldI op (L.take (k + 1))).length = m := by rw [← e2, HM.out, midI_length _ _ _ _ (Nat.le_refl _)]
                have E2 := Lib.hid e2
                have E3 := Lib.hid e3
                clear e2 e3 hown hbl
                go_wp2_with fail
                go_roundw
                case rel => exact ⟨k + 1, by omega, by go_num, by rw [E3.out, ← E2.out]; exact HO3.out, HB3.out⟩
                case measure => simp [intOf]; omega
    · have hkl : k = L.length := by omega
      subst hkl
      have HF : L.take L.length = L := List.take_length
      rw [HF] at HO hfl
      have HF := Lib.hid HF
      go_wp2_with (go_at_call 30; refine (cut_any (SlR.of_own HO.out) (by omega)).mono ?_; rintro e w' ⟨v', rfl, hown, hb⟩)
      go_ret
      exact ⟨v', rfl, hown.weaken HB.out.size, HB.out.trans (hb.mono HB.out.size)⟩

theorem minFn_any (x y : Int) (w : World) : Calls Try.prog 59 #[.int .u64 x, .int .u64 y] w fun e w' => e = .returned (.int .u64 (min x y)) ∧ w = w' := by
  by_cases h : y < x
  · rw [show min x y = y by omega]
    go_enter Try.func59, Try.ntmps59
    go_wp2
    go_ret
    exact ⟨rfl, rfl⟩
  · rw [show min x y = x by omega]
    go_enter Try.func59, Try.ntmps59
    go_wp2
    go_ret
    exact ⟨rfl, rfl⟩
theorem maxFn_any (x y : Int) (w : World) : Calls Try.prog 58 #[.int .u64 x, .int .u64 y] w fun e w' => e = .returned (.int .u64 (max x y)) ∧ w = w' := by
  by_cases h : x < y
  · rw [show max x y = y by omega]
    go_enter Try.func58, Try.ntmps58
    go_wp2
    go_ret
    exact ⟨rfl, rfl⟩
  · rw [show max x y = x by omega]
    go_enter Try.func58, Try.ntmps58
    go_wp2
    go_ret
    exact ⟨rfl, rfl⟩
def subU (x y : Int) : Int := IntKind.u64.wrap (x - y)
def minI (L : List (List Int)) : List Int := cutI (foldI min L)
def maxI (L : List (List Int)) : List Int := cutI (foldI max L)

theorem min_any {v : Value} {L : List (List Int)} {w : World} (h : RowsR w v L) (hlen : ∀ r ∈ L, r.length ≤ 1048576) :
    Calls Try.prog 37 #[v] w (RetOwn w 39 (u64s (minI L))) := by
  have H := Lib.hid h
  clear h
  go_enter Try.func37, Try.ntmps37
  go_wp2_with (go_at_call 57; refine (fold_any 59 min minFn_any (fun _ _ => by kernel_rfl) H.out hlen).mono ?_; rintro e w' ⟨v', rfl, hown, hb⟩)
  go_ret
  exact ⟨v', rfl, hown, hb⟩
theorem max_any {v : Value} {L : List (List Int)} {w : World} (h : RowsR w v L) (hlen : ∀ r ∈ L, r.length ≤ 1048576) :
    Calls Try.prog 36 #[v] w (RetOwn w 39 (u64s (maxI L))) := by
  have H := Lib.hid h
  clear h
  go_enter Try.func36, Try.ntmps36
  go_wp2_with (go_at_call 57; refine (fold_any 58 max maxFn_any (fun _ _ => by kernel_rfl) H.out hlen).mono ?_; rintro e w' ⟨v', rfl, hown, hb⟩)
  go_ret
  exact ⟨v', rfl, hown, hb⟩
end Go.Proofs.Ytabanackdjlcmaa
