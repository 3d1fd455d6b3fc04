/-
  Contracts of the document's answers for package learner, the rest.
-/
import Derived.Test.YtfkganccglmmlaaRef14
namespace Go.Proofs.Ytfkganccglmmlaa
open Go.ChangeShapes Go.WideShapes Go.ChangeAt Go.RowKit Go.Maps

theorem KM_mem {ks : KL} {i : Nat} (hi : i < ks.length) : KM ks ks[i].1 ≠ none := by
  have : fN ks ks[i].1 < ks.length := by
    unfold fN
    exact List.findIdx_lt_length_of_exists ⟨ks[i], List.getElem_mem hi, by simp⟩
  unfold KM
  rw [dif_pos this]; simp
theorem KM_of {ks : KL} {j : Int} (h : KM ks j ≠ none) : ∃ i : Nat, ∃ hi : i < ks.length, ks[i].1 = j := by
  unfold KM at h
  by_cases hi : fN ks j < ks.length
  · refine ⟨fN ks j, hi, ?_⟩
    have := List.findIdx_getElem (p := fun p : Int × List Int => p.1 == j) (xs := ks) (w := hi)
    exact beq_iff_eq.1 this
  · rw [dif_neg hi] at h; exact absurd rfl h

set_option maxHeartbeats 400000 in
theorem rnext_any {v : Value} {ks : KL} {w : World} {next : Int} (h : KsR w v ks) (hx : IsNext (KM ks) next) (hn : next ≤ 18446744073709551615) :
    Calls Try.prog 12 #[v] w fun e w' => e = .returned (.int .u64 next) ∧ w = w' := by
  have H := Lib.hid h
  have HX := Lib.hid hx
  have hn0 := hx.1
  clear h hx
  go_enter Try.func12, Try.ntmps12
  go_wp2
  go_loop [3] (fun i => ∃ n : Int, 0 ≤ n ∧ n ≤ next ∧ i = .int .u64 n) (fun i => (next - intOf i).toNat)
  case atStart => exact ⟨0, by omega, by omega, rfl⟩
  case round =>
    obtain ⟨n, h0, h1, rfl⟩ := hrel
    by_cases hlt : n < next
    · obtain ⟨i, hi, _⟩ : ∃ i : Nat, fI ks n = i ∧ True := by
        cases hk : KM ks n with
        | none => exact absurd hk (HX.out.2.1 n h0 hlt)
        | some xs => obtain ⟨i, hi, _⟩ := fI_some hk; exact ⟨i, hi, trivial⟩
      have HI := Lib.hid hi
      clear hi
      go_wp2_with fail
      refine (find_any n H.out).mono ?_
      rw [HI.out]
      rintro e w' ⟨rfl, rfl⟩
      go_wp2_with fail
      go_round
      case rel => exact ⟨n + 1, by omega, by omega, by go_num⟩
      case measure => simp [intOf]; omega
    · have hnn : next = n := by omega
      subst hnn
      have hi := Lib.hid (fI_none HX.out.2.2)
      go_wp2_with fail
      refine (find_any next H.out).mono ?_
      rw [hi.out]
      rintro e w' ⟨rfl, rfl⟩
      go_wp2_with fail
      go_ret
      exact ⟨rfl, rfl⟩

set_option maxHeartbeats 400000 in
theorem rtop_any {v : Value} {ks : KL} {w : World} {top : Int} (h : KsR w v ks) (hx : IsTop (KM ks) top) :
    Calls Try.prog 14 #[v] w fun e w' => e = .returned (.int .u64 top) ∧ w = w' := by
  obtain ⟨ao, c, rfl, hc, hm, hxx⟩ := h.row
  have HX := Lib.hid hx
  have ht := hx.2.1
  have hin : ∀ i (hi : i < ks.length), 0 ≤ ks[i].1 ∧ ks[i].1 < top := fun i hi => hx.2.2.1 _ (KM_mem hi)
  have HIn := Lib.hid hin
  clear h hx hin
  go_enter Try.func14, Try.ntmps14
  go_wp2
  go_loop [3, 4] (fun n i => ∃ (k : Nat) (t : Int), k ≤ ks.length ∧ i = .int .i64 k ∧ n = .int .u64 t ∧ 0 ≤ t ∧ t ≤ top ∧ (∀ j (hj : j < ks.length), j < k → ks[j].1 < t) ∧ (t = 0 ∨ ∃ j, ∃ hj : j < ks.length, ks[j].1 + 1 = t)) (fun _ i => ks.length - (intOf i).toNat)
  case atStart => exact ⟨0, 0, by omega, rfl, rfl, by omega, by have := HX.out.1; omega, by intro j _ hj; omega, Or.inl rfl⟩
  case round =>
    obtain ⟨k, t, hk, rfl, rfl, ht0, ht1, hall, hex⟩ := hrel
    have HAll := Lib.hid hall
    have HEx := Lib.hid hex
    clear hall hex
    by_cases hlt : k < ks.length
    · obtain ⟨a, rfl, hc1, _⟩ := hxx k hlt
      have hc10 : k = 0 → w.cell? a = some (.int .u64 ks[k].1) := fun e => by subst e; rw [show a.add (0 * 2) = a by cases a; rfl] at hc1; exact hc1
      obtain ⟨hs0, hs1⟩ := HIn.out k hlt
      obtain ⟨s, hs⟩ : ∃ s, s = ks[k].1 := ⟨_, rfl⟩
      rw [← hs] at hc1 hc10 hs0 hs1
      have HS := Lib.hid hs
      clear hxx hs
      by_cases hq : t ≤ s
      · go_wp2_with fail
        go_round
        case rel => exact ⟨k + 1, s + 1, by omega, by go_num, by go_num, by omega, by omega, fun j hj h => by
          by_cases e : j = k
          · subst e; rw [← HS.out]; omega
          · have := HAll.out j hj (by omega); omega, Or.inr ⟨k, hlt, by rw [← HS.out]⟩⟩
        case measure => simp [intOf]; omega
      · go_wp2_with fail
        go_round
        case rel => exact ⟨k + 1, t, by omega, by go_num, rfl, by omega, by omega, fun j hj h => by
          by_cases e : j = k
          · subst e; rw [← HS.out]; omega
          · exact HAll.out j hj (by omega), HEx.out⟩
        case measure => simp [intOf]; omega
    · have hr : t = top := by
        have h1 : top ≤ t := by
          rcases HX.out.2.2.2 with h | h
          · omega
          · obtain ⟨i, hi, e⟩ := KM_of h
            have := HAll.out i hi (by omega)
            omega
        omega
      subst hr
      clear hxx
      go_wp2_with fail
      go_ret
      exact ⟨rfl, rfl⟩

/-- What the document's Learn makes of a list. -/
def RetKs (ks : KL) (er : Int) (w : World) (e : Ending) (w' : World) : Prop := ∃ v, e = .returned (.tuple #[v, .int .i64 er]) ∧ KsR w' v ks ∧ Below w.heap.size w w'
theorem rlearn_worn {v : Value} {ks : KL} {w : World} (s : ByteArray) (h : KsR w v ks) :
    Calls Try.prog 10 #[v, .int .u64 18446744073709551615, .string s] w (RetKs ks 37 w) := by
  have H := Lib.hid h
  clear h
  go_enter Try.func10, Try.ntmps10
  go_wp2_with fail
  go_ret2
  exact ⟨_, rfl, H.out, Below.refl _ _⟩
set_option maxHeartbeats 800000 in
theorem rlearn_known {v : Value} {ks : KL} {w : World} {slot : Int} {xs ys : List Int} (h : KsR w v ks) (h1 : slot < 18446744073709551615) (hk : KM ks slot = some ys) (ux : U8 xs) (uy : U8 ys) :
    Calls Try.prog 10 #[v, .int .u64 slot, .string (strB xs)] w (RetKs ks (if ys = xs then 31 else 33) w) := by
  have H := Lib.hid h
  obtain ⟨ao, c, rfl, hc, hm, hx⟩ := h.row
  obtain ⟨i, hi, hil, hys⟩ := fI_some hk
  obtain ⟨a, rfl, _, hc2⟩ := hx i hil
  rw [hys] at hc2
  have HI := Lib.hid hi
  have hne2 : (slot == 18446744073709551615) = false := by rw [beq_eq_false_iff_ne]; omega
  have hbq := strB_beq uy ux
  clear h hx hi hys hk
  by_cases hxy : ys = xs
  · rw [if_pos hxy]
    rw [show (ys == xs) = true by simpa using hxy] at hbq
    clear hxy
    generalize strB xs = sx at *
    generalize strB ys = sy at *
    go_enter Try.func10, Try.ntmps10
    go_wp2_with fail
    refine (find_any slot H.out).mono ?_
    rw [HI.out]
    rintro e w' ⟨rfl, rfl⟩
    go_wp2_with fail
    go_ret2
    exact ⟨_, rfl, H.out, Below.refl _ _⟩
  · rw [if_neg hxy]
    rw [show (ys == xs) = false by simpa using hxy] at hbq
    clear hxy
    generalize strB xs = sx at *
    generalize strB ys = sy at *
    go_enter Try.func10, Try.ntmps10
    go_wp2_with fail
    refine (find_any slot H.out).mono ?_
    rw [HI.out]
    rintro e w' ⟨rfl, rfl⟩
    go_wp2_with fail
    go_ret2
    exact ⟨_, rfl, H.out, Below.refl _ _⟩

theorem run_appK {P : Program} {w : World} {t ty : TypeId} (base : Nat) (e : TypeId) (i : TypeInfo) (z : Value) (bytes : Nat) (ht : P.underlying t = some (.slice e)) (hi : P.info? e = some i) (hz : i.zero = some z)
    (hsize : i.size = 2) (hby : i.bytes = bytes) (hzs : z.cells.size = 2) (hb24 : bytes ≤ 32)
    {v src : Value} {n : Nat} {xs : List Value} {ks : KL} (hown : w.ownsRow base e 2 v n xs) (hsrc : KsR w src ks)
    (hlen : n + ks.length ≤ 1099511627776) (hbase : base ≤ w.heap.size) :
    ∃ v' w', (Builtin.append_ #[t, t] ty #[v, src]).run P w = .ok v' w' ∧ w'.ownsRow base e 2 v' (n + ks.length) (xs ++ kcells ks) ∧ Below base w w' := by
  obtain ⟨ao, c, rfl, h1, h2, hx⟩ := hsrc
  cases ao with
  | none =>
    have : ks = [] := by
      cases ks with
      | nil => rfl
      | cons p r => obtain ⟨a, ha, _⟩ := hx 0 _ rfl; cases ha
    subst this
    exact ⟨v, w, run_append_none ht hi hown c, by simpa [kcells] using hown, Below.refl _ _⟩
  | some ad =>
    obtain ⟨v', w', hr, h2, h3, h4, h5⟩ := run_append_own_at (P := P) w base t ty e i z 2 bytes ht hi hz hsize hby hzs (by omega) v n xs hown ad ks.length c (kcells ks) (kcells_len ks)
      (fun j u hj => by obtain ⟨a, ha, hc⟩ := hx j u hj; cases ha; exact hc) (kcells_one ks) (by unfold maxLen; omega)
      (by have := Nat.mul_le_mul_left (n + ks.length) hb24; omega) hbase
    exact ⟨v', w', hr, h2, (Below.refl _ _).grown h3 hbase (fun k hk => (hown.lt k hk).1)⟩
theorem wpList_appK {P : Program} {w : World} {ops : Array Oper} {rest : List Oper} {o : Oper} {a : Act} {Q : Exit → Act → World → Prop} (hgd : o.guard = none) (s x : Operand) (t : TypeId)
    (ho : o.op = .call { callee := .builtin .append, args := #[s, x], argTypes := #[t, t] })
    (base : Nat) (e : TypeId) (i : TypeInfo) (z : Value) (bytes : Nat) (ht : P.underlying t = some (.slice e)) (hi : P.info? e = some i) (hz : i.zero = some z)
    (hsize : i.size = 2) (hby : i.bytes = bytes) (hzs : z.cells.size = 2) (hb24 : bytes ≤ 32)
    {v src : Value} {n : Nat} {xs : List Value} {ks : KL} (hs : a.eval s = v) (hx : a.eval x = src) (hown : w.ownsRow base e 2 v n xs) (hsrc : KsR w src ks)
    (hlen : n + ks.length ≤ 1099511627776) (hbase : base ≤ w.heap.size)
    (h : ∀ v' w', w'.ownsRow base e 2 v' (n + ks.length) (xs ++ kcells ks) → Below base w w' → wpList P ops Q rest (a.put o.dst v') w') : wpList P ops Q (o :: rest) a w := by
  refine wpList_plain hgd fun K hK => ?_
  obtain ⟨v', w', hr, h2, h3⟩ := run_appK (P := P) (t := t) (ty := o.type) base e i z bytes ht hi hz hsize hby hzs hb24 hown hsrc hlen hbase
  unfold Oper.wp execOp
  simp only [ho, resolve, invoke, builtin, Sem.run_bind, Sem.run_pure, Result.andThen_ok, List.map_toArray, List.map_cons, List.map_nil, hs, hx, hr]
  exact hK _ _ (h v' w' h2 h3)

theorem Try.kInfo : (Try.prog.info? 43).map (fun i => (i.zero, i.size, i.bytes)) = some (some (.agg #[.int .u64 0, .string ⟨#[]⟩]), 2, 24) := by kernel_rfl
set_option maxHeartbeats 800000 in
theorem rlearn_new {v : Value} {ks : KL} {w : World} {slot : Int} {xs : List Int} (h : KsR w v ks) (h1 : slot < 18446744073709551615) (hk : KM ks slot = none) (hl : ks.length ≤ 1000000) :
    Calls Try.prog 10 #[v, .int .u64 slot, .string (strB xs)] w (RetKs (ks ++ [(slot, xs)]) 0 w) := by
  have H := Lib.hid h
  have HI := Lib.hid (fI_none hk)
  obtain ⟨i0, hi, hz0, hz1, hz2⟩ := info_parts Try.kInfo
  have hne2 : (slot == 18446744073709551615) = false := by rw [beq_eq_false_iff_ne]; omega
  have hcs : kcells (ks ++ [(slot, xs)]) = kcells ks ++ [.int .u64 slot, .string (strB xs)] := by rw [kcells_app]; rfl
  have HCs := Lib.hid hcs
  have hll : (ks ++ [(slot, xs)]).length = ks.length + 1 := by simp
  have HLl := Lib.hid hll
  clear h hk hcs hll
  generalize strB xs = sx at *
  go_enter Try.func10, Try.ntmps10
  go_wp2_with fail
  refine (find_any slot H.out).mono ?_
  rw [HI.out]
  rintro e w' ⟨rfl, rfl⟩
  go_wp2_with (first
    | (at_builtin; refine wpList_appK rfl (.tmp 31) (.tmp 32) 27 rfl w.heap.size 43 i0 _ 24 Try.underlying27 hi hz0 hz1 hz2 rfl (by omega) rfl rfl (World.ownsRow_nil w w.heap.size 43 2) H.out (by omega) (Nat.le_refl _) ?_; intro v1 w1 hown1 hb1; have hown1 := Lib.hid hown1; have hb1 := Lib.hid hb1; have hbs1 := hb1.out.size)
    | (at_builtin; refine wpList_append_own _ rfl (.tmp 34) (.tmp 38) 27 rfl w.heap.size 43 i0 _ 2 24 Try.underlying27 hi hz0 hz1 hz2 rfl (by decide) _ _ _ rfl (hown1.out.alloc _) ⟨w1.heap.size, 0, none⟩ 1 1 [.int .u64 slot, .string sx] rfl rfl (fun j u hj => World.news_of_block (heap_alloc_new w1 _) j u hj) (by intro u hu; simp at hu; rcases hu with rfl | rfl <;> rfl) (by unfold maxLen; omega) (by omega) (by simp; omega) ?_; intro v2 w2 hown2 hg2 _; have hown2 := Lib.hid hown2; have hb2 := Lib.hid ((hb1.out.alloc hbs1 _).grown hg2 (by simp; omega) (fun k hk => (hown1.out.lt k hk).1))))
  go_ret2
  refine ⟨_, rfl, ?_, hb2.out⟩
  have h2 := hown2.out
  rw [List.nil_append, ← HCs.out] at h2
  exact KsR.of_own h2
end Go.Proofs.Ytfkganccglmmlaa
