/-
  LearnerPlays: whatever is learned, what is known, and what isn't, are the document's, step by step.
-/
import Derived.Test.YtfkganccglmmlaaRef14c
import Derived.Test.YtfkganccglmmlaaFrame
namespace Go.Proofs.Ytfkganccglmmlaa
open Go.ChangeShapes Go.WideShapes Go.ChangeAt Go.RowKit Go.Maps

/-- The document's list behind a value. -/
def stepK (ks : KL) (s : Int) (xs : List Int) : KL := if s = 18446744073709551615 then ks else match KM ks s with | some _ => ks | none => ks ++ [(s, xs)]
def errK (ks : KL) (s : Int) (xs : List Int) : Int := if s = 18446744073709551615 then 37 else match KM ks s with | some ys => if ys = xs then 31 else 33 | none => 0
theorem stepK_len (ks : KL) (s : Int) (xs : List Int) : (stepK ks s xs).length ≤ ks.length + 1 := by
  unfold stepK
  split
  · omega
  · split <;> simp
theorem LW.mono {w1 w : World} {n n' : Nat} {m : Kn} (h : LW w1 w n m) (hn : n ≤ n') : LW w1 w n' m := by
  obtain ⟨⟨next, top, hc, ⟨h1, ⟨f, hf, hv⟩, h2⟩, h3, h4⟩, h5⟩ := h
  exact ⟨⟨next, top, hc, ⟨h1, ⟨f, hf.mono hn, hv⟩, h2⟩, h3, h4⟩, h5⟩
theorem LW.u8 {w1 w : World} {n : Nat} {m : Kn} (h : LW w1 w n m) {s : Int} {xs : List Int} (hk : m s = some xs) : U8 xs := by
  obtain ⟨⟨next, top, hl⟩, _⟩ := h
  exact (hl.map.small s xs hk).1
theorem LW.learnAny {w1 w : World} {n : Nat} {ks : KL} (h : LW w1 w n (KM ks)) {v : Value} {xs : List Int} {s : Int} (hv : SlR w v (u8s xs)) (ux : U8 xs) (lx : xs.length ≤ 1048576)
    (h0 : 0 ≤ s) (h1 : s ≤ 18446744073709551615) (hn : n < 1000000) :
    Calls Try.prog 9 #[lp w1, .int .u64 s, v] w fun e w' => e = .returned (.int .i64 (errK ks s xs)) ∧ LW w1 w' (n + 1) (KM (stepK ks s xs)) ∧ Keep (LS (w1.heap.size + 1) w1.heap.size) w w' := by
  by_cases hm : s = 18446744073709551615
  · subst hm
    refine (learn_worn _ _ _).mono ?_
    rintro e w' ⟨rfl, rfl⟩
    exact ⟨rfl, h.mono (by omega), Keep.refl _ _⟩
  · unfold errK stepK
    rw [if_neg hm, if_neg hm]
    cases hk : KM ks s with
    | some ys =>
      refine (h.known hv ux h0 (by omega) hk).mono ?_
      rintro e w' ⟨rfl, rfl⟩
      exact ⟨rfl, h.mono (by omega), Keep.refl _ _⟩
    | none =>
      refine (h.learn hv ux lx h0 (by omega) hn hk).mono ?_
      rintro e w' ⟨rfl, h2, h3⟩
      exact ⟨rfl, by show LW w1 w' (n + 1) (KM (ks ++ [(s, xs)])); rw [KM_snoc hk]; exact h2, h3⟩
theorem rlearnAny {v : Value} {ks : KL} {w : World} {s : Int} {xs : List Int} (h : KsR w v ks) (ux : U8 xs) (hu : ∀ ys, KM ks s = some ys → U8 ys) (h1 : s ≤ 18446744073709551615) (hl : ks.length ≤ 1000000) :
    Calls Try.prog 10 #[v, .int .u64 s, .string (strB xs)] w (RetKs (stepK ks s xs) (errK ks s xs) w) := by
  by_cases hm : s = 18446744073709551615
  · subst hm
    exact rlearn_worn _ h
  · unfold errK stepK
    rw [if_neg hm, if_neg hm]
    cases hk : KM ks s with
    | some ys => exact rlearn_known h (by omega) hk ux (hu ys hk)
    | none => exact rlearn_new h (by omega) hk hl
theorem unk_append (m : Kn) (x : Int) (a b : Nat) : unk m x (a + b) = unk m x a ++ unk m (x + a) b := by
  unfold unk
  rw [List.range_add, List.map_append, List.filter_append, List.map_map]
  congr 3
  funext i
  simp; omega
theorem unk_known (m : Kn) (d : Nat) (h : ∀ j : Nat, j < d → m j ≠ none) : unk m 0 d = [] := by
  induction d with
  | zero => rfl
  | succ d ih =>
    cases hm : m (d : Int) with
    | none => exact absurd hm (h d (by omega))
    | some xs =>
      rw [unk_miss (xs := xs) (by rw [← hm]; congr 1; omega)]
      exact ih (fun j hj => h j (by omega))
/-- What the two tell of gaps is the same. -/
theorem gaps_same {m : Kn} {next top : Int} (hn : IsNext m next) (ht : IsTop m top) (k : Nat) : (unk m next (top - next).toNat).take k = (unk m 0 top.toNat).take k := by
  have hnt := next_le_top hn ht
  have h0 := hn.1
  obtain ⟨a, rfl⟩ := Int.eq_ofNat_of_zero_le h0
  obtain ⟨b, rfl⟩ := Int.eq_ofNat_of_zero_le ht.1
  have e : (b : Int).toNat = a + ((b : Int) - (a : Int)).toNat := by omega
  rw [e, unk_append, unk_known m a (fun j hj => hn.2.1 j (by omega) (by omega)), List.nil_append, show (0 : Int) + (a : Int) = (a : Int) by omega]
theorem LW.gapsAny {w1 w : World} {n : Nat} {m : Kn} (h : LW w1 w n m) {next top : Int} (hx : IsNext m next) (ht : IsTop m top) {most : Int} (hm2 : most ≤ 1048576) :
    Calls Try.prog 16 #[lp w1, .int .i64 most] w fun e W' => ∃ v, e = .returned v ∧ SlR W' v (u64s ((unk m 0 top.toNat).take most.toNat)) ∧ Below w.heap.size w W' := by
  by_cases hm : most < 1
  · refine (gaps_few _ most hm w).mono ?_
    rintro e w' ⟨rfl, hb⟩
    refine ⟨_, rfl, ?_, hb⟩
    rw [show most.toNat = 0 by omega]
    simpa using SlR.nil w'
  · refine (h.gaps hx ht (most := most) (by omega) hm2).mono ?_
    rintro e w' ⟨v, rfl, hs, hb⟩
    rw [gaps_same hx ht] at hs
    exact ⟨v, rfl, hs, hb⟩
theorem MapR.none {w : World} {P : Program} {k : TypeId} {b n : Nat} {f : Lit → Option Value} (h : MapR w P k b n f) (p : Addr) (hp : p.block = b) : w.cell? p = none := by
  obtain ⟨D, ⟨es, clock, h0, _⟩, _⟩ := h
  unfold World.cell?
  rw [hp, h0]
theorem KsR.keepL {w w' w1 : World} {v : Value} {ks : KL} {n : Nat} {m : Kn} (h : KsR w v ks) (hl : LW w1 w n m) (hk : Keep (LS (w1.heap.size + 1) w1.heap.size) w w') : KsR w' v ks := by
  obtain ⟨⟨next, top, hl⟩, _⟩ := hl
  obtain ⟨ao, c, rfl, h1, h2, hx⟩ := h
  refine ⟨ao, c, rfl, h1, h2, fun i u hi => ?_⟩
  obtain ⟨a, rfl, hc⟩ := hx i u hi
  refine ⟨a, rfl, hk.cell hc ?_⟩
  have h0 : 0 < ks.length := by
    have := (List.getElem?_eq_some_iff.1 hi).1
    rw [kcells_len] at this; omega
  obtain ⟨a', ha', hstr⟩ := hx 1 _ (kcells_at ks 0 h0).2
  cases ha'
  rw [block_add]
  rintro (hb | hb)
  · have hcl := hl.cells
    unfold LCells at hcl
    have e : (a.add 1) = ⟨w1.heap.size + 1, a.off + 1, none⟩ := by rw [Addr.add_succ' a 0, ← hb]
    rw [e] at hstr
    simp only [World.cell?, hcl] at hstr
    rcases (show a.off = 0 ∨ a.off = 1 ∨ 2 ≤ a.off by omega) with e | e | e
    · rw [e] at hstr; simp at hstr
    · rw [e] at hstr; simp at hstr
    · simp at hstr
      rw [List.getElem?_eq_none (by simpa using e)] at hstr
      cases hstr
  · obtain ⟨_, ⟨f, hf, _⟩, _⟩ := hl.map
    rw [hf.none _ (by rw [block_add]; exact hb)] at hstr
    cases hstr
theorem beq_self_list (a : List Int) : (a == a) = true := by simp

set_option maxRecDepth 100000 in
set_option maxHeartbeats 4000000 in
theorem learnerPlays_in {v vl : Value} {sl : List Int} {L : List (List Int)} {most : Int} {W : World} (hs : SlR W v (u64s sl)) (us : ∀ x ∈ sl, 0 ≤ x ∧ x ≤ 18446744073709551615) (hv : RowsK W .u8 vl L) (hu : ∀ r ∈ L, U8 r)
    (hl : sl.length ≤ 40) (hL : sl.length ≤ L.length) (hm0 : -9223372036854775808 ≤ most) (hm : most ≤ 60) :
    Calls Try.prog 3 #[v, vl, .int .i64 most] W fun e W' => e = .returned (.bool true) ∧ Below W.heap.size W W' := by
  have HV := Lib.hid hv
  have HSl := Lib.hid hs
  have HU := Lib.hid hu
  have HUs := Lib.hid us
  obtain ⟨va, vc, rfl, hvc, hvm, _⟩ := hv.row
  obtain ⟨oa, oc, rfl, hoc, hom, _⟩ := hs.intsAt
  clear hu us
  go_enter Try.func3, Try.ntmps3
  go_wp2_with (go_at_call 7; refine (awake_any W).mono ?_; rintro e w1 ⟨rfl, hb1⟩; have hb1 := Lib.hid hb1)
  refine (new_lw w1).mono ?_
  rintro e w2 ⟨rfl, h2⟩
  have H2 := Lib.hid h2
  have HS := Lib.hid (HSl.out.below hb1.out (Nat.le_refl _))
  have HR := Lib.hid (HV.out.below hb1.out (Nat.le_refl _))
  clear h2
  go_wp2_with fail
  go_loopw [9, 10, 11, 12, 13, 14, 15, 16, 17, 18, 19] (fun vk i _ _ _ _ _ _ _ _ _ wr => ∃ (j n : Nat) (ks : KL), j ≤ sl.length ∧ i = .int .i64 j ∧ n ≤ j ∧ ks.length ≤ j ∧ LW w1 wr n (KM ks) ∧ KsR wr vk ks) (fun _ i _ _ _ _ _ _ _ _ _ _ => sl.length - (intOf i).toNat)
  case atStart => exact ⟨0, 0, [], by omega, rfl, by omega, by simp, by rw [KM_nil]; exact H2.out, KsR.nil _⟩
  case round =>
    obtain ⟨j, n, ks, hj, rfl, hnj, hkj, hlw, hks⟩ := hrel
    have HL := Lib.hid hlw
    have HK := Lib.hid hks
    clear hlw hks
    by_cases hlt : j < sl.length
    · obtain ⟨oa', oc', hv', _, _, hx⟩ := HS.out.intsAt
      cases hv'
      obtain ⟨ad, rfl, hcell⟩ := hx j hlt
      have hsb : 0 ≤ atI sl j ∧ atI sl j ≤ 18446744073709551615 := by
        have := HUs.out sl[j] (List.getElem_mem hlt)
        simpa [atI, hlt] using this
      obtain ⟨va', vc', hv', _, _, hrow⟩ := HR.out.row
      cases hv'
      obtain ⟨a, u, rfl, hcu, hsu⟩ := hrow j (by omega)
      obtain ⟨xs, hxs⟩ : ∃ xs, xs = L[j]'(by omega) := ⟨_, rfl⟩
      rw [← hxs] at hsu
      have hux : U8 xs := by rw [hxs]; exact HU.out _ (List.getElem_mem (by omega))
      have HX := Lib.hid hsu
      have HUX := Lib.hid hux
      obtain ⟨ua, uc, rfl, huc, hum⟩ := hsu.form
      simp only [List.length_map] at hcu huc HX ⊢
      generalize atI sl j = s at *
      have hfs : ∀ w' : World, Below w1.heap.size w1 w' → w'.cell? (ad.add j) = some (.int .u64 s) ∧ w'.cell? (a.add j) = some (.slice ua xs.length uc) := fun w' hb =>
        ⟨(hb.cell (World.block_lt_of_cell? _ _ hcell)).trans hcell, (hb.cell (World.block_lt_of_cell? _ _ hcu)).trans hcu⟩
      have HFs := Lib.hid hfs
      obtain ⟨hcs, hcv⟩ := hfs wr HL.out.below
      clear hx hrow hxs hsu hux hcell hcu hfs
      have hjI : (0 : Int) ≤ (j : Int) := by omega
      have hjL : (j : Int) < (L.length : Int) := by omega
      have hjS : (j : Int) < (sl.length : Int) := by omega
      by_cases hx40 : xs.length ≤ 40
      · by_cases hs200 : 200 < s ∧ s < 18446744073709551615
        · obtain ⟨hs1, hs2⟩ := hs200
          go_wp2_with fail
          go_ret
          exact ⟨rfl, hb1.out.trans (HL.out.below.mono hb1.out.size)⟩
        · have hs3 : decide (200 < s) = false ∨ (decide (200 < s) = true ∧ decide (s < 18446744073709551615) = false) := by
            by_cases h : 200 < s
            · right; simp; omega
            · left; simp; omega
          rcases hs3 with hs3 | ⟨hs3, hs4⟩
          all_goals
            have HS200 := Lib.hid hs200
            clear hs200
            go_wp2_with fail
            have HLd := Lib.hid (HL.out.step (Below.refl wr.heap.size wr).drew)
            have HXd := Lib.hid ((HX.out.below HLd.out.below (Nat.le_refl _)))
            have HKd := Lib.hid (HK.out.below (Below.refl wr.heap.size wr).drew (Nat.le_refl _))
            go_region_held3 (fun w' => w'.cell? (ad.add j) = some (.int .u64 s) ∧ w'.cell? (a.add j) = some (.slice ua xs.length uc)) (first | go_keep | exact hcA)
              (first
                | (go_at_call 9; (with_reducible refine (HLd.out.learnAny (s := s) HXd.out HUX.out (by omega) hsb.1 hsb.2 (by omega)).mono ?_); rintro e w4 ⟨rfl, hl4, hk4⟩; have H4 := Lib.hid hl4; have hcA := HFs.out w4 hl4.below; have hcA4 := Lib.hid hcA; have HK4 := Lib.hid hk4; clear hl4 hk4))
            go_wp2_with fail
            have HX4 := Lib.hid (HX.out.below H4.out.below (Nat.le_refl _))
            have r1 : (convert 28 9 (.slice ua xs.length uc)).run Try.prog w4.drew = .ok (.string (strB xs)) w4.drew := by
              have := run_strB (P := Try.prog) (src := 28) (dst := 9) Try.underlying28 Try.underlying5 Try.underlying9 (HX4.out.below (Below.refl w4.heap.size w4).drew (Nat.le_refl _))
              exact this
            have HK4d := Lib.hid ((HK.out.below (Below.refl wr.heap.size wr).drew (Nat.le_refl _)).keepL HLd.out HK4.out)
            have HK4d := Lib.hid (HK4d.out.below (Below.refl w4.heap.size w4).drew (Nat.le_refl _))
            have HU4 := Lib.hid (fun ys (h : KM ks s = some ys) => HL.out.u8 h)
            have HSt := Lib.hid (stepK_len ks s xs)
            have H4d := Lib.hid (H4.out.step (Below.refl w4.heap.size w4).drew)
            have hS0 := And.intro hcA4.out.1 (And.intro hcA4.out.2 r1)
            have r5 : ∀ w5 : World, Below w4.drew.heap.size w4.drew w5 → (convert 28 9 (.slice ua xs.length uc)).run Try.prog w5 = .ok (.string (strB xs)) w5 := fun w5 hb => by
              have := run_strB (P := Try.prog) (src := 28) (dst := 9) Try.underlying28 Try.underlying5 Try.underlying9 ((HX4.out.below (Below.refl w4.heap.size w4).drew (Nat.le_refl _)).below hb (Nat.le_refl _))
              exact this
            have HR5 := Lib.hid r5
            clear r5
            go_region_held3 (fun w' => w'.cell? (ad.add j) = some (.int .u64 s) ∧ w'.cell? (a.add j) = some (.slice ua xs.length uc) ∧ (convert 28 9 (.slice ua xs.length uc)).run Try.prog w' = .ok (.string (strB xs)) w') (first | go_keep | exact hS0 | exact hcA5)
              (first
                | (go_at_call 10; (with_reducible refine (rlearnAny (s := s) (xs := xs) HK4d.out HUX.out HU4.out hsb.2 (by omega)).mono ?_); rintro e w5 ⟨v5, rfl, hks5, hb5⟩; have H5 := Lib.hid (H4d.out.step hb5); have hcA5 := And.intro (HFs.out w5 H5.out.below).1 (And.intro (HFs.out w5 H5.out.below).2 (HR5.out w5 hb5)); have HK5 := Lib.hid hks5; clear hks5 hb5))
            obtain ⟨ks', hks'⟩ : ∃ ks', ks' = stepK ks s xs := ⟨_, rfl⟩
            rw [← hks'] at H5 HK5 HSt
            generalize errK ks s xs = er at *
            obtain ⟨next, top, hlr⟩ := H5.out.lr
            have hnx := hlr.next
            have htp := hlr.top
            have hnt := next_le_top hnx htp
            have hnm := htp.2.1
            obtain ⟨tp, rfl⟩ := Int.eq_ofNat_of_zero_le htp.1
            have Hnx := Lib.hid hnx
            have Htp := Lib.hid htp
            clear hlr hnx htp hks' hcA hcA5 hcA4 HK4d HU4 H4d HX4 H4 HK4 HKd HXd HLd HL HK hcs hcv HX HUX r1
            go_wp2_with (first
              | (go_at_call 11; refine (H5.out.next Hnx.out).mono ?_; rintro e w' ⟨rfl, rfl⟩)
              | (go_at_call 12; refine (rnext_any HK5.out Hnx.out (by omega)).mono ?_; rintro e w' ⟨rfl, rfl⟩)
              | (go_at_call 13; refine (H5.out.top Htp.out).mono ?_; rintro e w' ⟨rfl, rfl⟩)
              | (go_at_call 14; refine (rtop_any HK5.out Htp.out).mono ?_; rintro e w' ⟨rfl, rfl⟩)
              | fail)
            refine (H5.out.gapsAny Hnx.out Htp.out (most := most) (by omega)).mono ?_
            rintro e w6 ⟨v6, rfl, hs6, hb6⟩
            have H6 := Lib.hid (H5.out.step hb6)
            have HK6 := Lib.hid (HK5.out.below hb6 (Nat.le_refl _))
            have hs6 := Lib.hid hs6
            clear hb6 H5 HK5
            go_wp2_with fail
            refine (rgaps_any HK6.out Htp.out (most := most) (by omega)).mono ?_
            rintro e w7 ⟨v7, rfl, hs7, hb7⟩
            have H7 := Lib.hid (H6.out.step hb7)
            have HK7 := Lib.hid (HK6.out.below hb7 (Nat.le_refl _))
            have hs6 := Lib.hid (hs6.out.below hb7 (Nat.le_refl _))
            have hs7 := Lib.hid hs7
            clear hb7 H6 HK6
            go_wp2_with fail
            refine (rsame_any hs6.out hs7.out).mono ?_
            rw [Int.toNat_natCast, beq_self_list]
            rintro e w8 ⟨rfl, hd8⟩
            have H8 := Lib.hid (H7.out.step hd8.below)
            have HK8 := Lib.hid (HK7.out.below hd8.below (Nat.le_refl _))
            clear hd8 H7 HK7 hs6 hs7
            go_wp2_with fail
            go_loopw [14, 15, 16, 17, 18, 19] (fun i _ _ _ _ _ wr => ∃ k : Nat, k ≤ 12 ∧ i = .int .u64 k ∧ LW w1 wr (n + 1) (KM ks') ∧ KsR wr v5 ks') (fun i _ _ _ _ _ _ => 12 - (intOf i).toNat)
            case atStart => exact ⟨0, by omega, rfl, H8.out, HK8.out⟩
            case round =>
              obtain ⟨k, hk, rfl, hl9, hk9⟩ := hrel
              have H9 := Lib.hid hl9
              have HK9 := Lib.hid hk9
              clear hl9 hk9 H8 HK8
              by_cases hk12 : k < 12
              · cases hkk : KM ks' (k : Int) with
                | none =>
                  have HKk := Lib.hid hkk
                  have HI := Lib.hid (fI_none hkk)
                  clear hkk
                  go_wp2_with fail
                  refine (H9.out.get (slot := k) (by omega) (by omega)).mono ?_
                  rintro e w10 ⟨v10, x10, rfl, hv10, _, hx10, hb10⟩
                  rw [show (KM ks' (k : Int)).isSome = false by rw [HKk.out]; rfl]
                  have H10 := Lib.hid (H9.out.step hb10)
                  have HK10 := Lib.hid (HK9.out.below hb10 (Nat.le_refl _))
                  clear hv10 hx10 hb10 H9 HK9
                  go_wp2_with fail
                  refine (find_any _ HK10.out).mono ?_
                  rw [HI.out]
                  rintro e w' ⟨rfl, rfl⟩
                  go_wp2_with fail
                  go_quiet (fail)
                  have H10d := fun q : Nat => H10.out.step (below_drewN (Below.refl w10.heap.size w10) q)
                  have H10d := Lib.hid H10d
                  have HK10d := Lib.hid (fun q : Nat => HK10.out.drewN q)
                  clear H10 HK10
                  go_wp2_with fail
                  refine ((H10d.out _).from (slot := k) (most := 5) (by omega) (by omega) (by decide)).mono ?_
                  rintro e w11 ⟨v11, L11, rfl, hv11, hr11, hl11, he11, hb11⟩
                  have H11 := Lib.hid ((H10d.out _).step hb11)
                  have HK11 := Lib.hid ((HK10d.out _).below hb11 (Nat.le_refl _))
                  have HV11 := Lib.hid hv11
                  have HR11 := Lib.hid hr11
                  have HL11 := Lib.hid hl11
                  have HE11 := Lib.hid he11
                  obtain ⟨a11, c11, rfl, hc11, hm11, _⟩ := hv11.row
                  clear hb11 hr11 hl11 he11 H10d HK10d hv11
                  go_wp2_with fail
                  go_loopw [17, 19] (fun _ i wr => ∃ t : Nat, t ≤ 5 ∧ i = .int .i64 t ∧ (∀ q : Nat, q < t → KM ks' (k + q) ≠ none) ∧ Drew w11 wr) (fun _ i _ => 5 - (intOf i).toNat)
                  case atStart => exact ⟨0, by omega, rfl, (fun q hq => by omega), Drew.refl _⟩
                  case round =>
                    obtain ⟨t, ht, rfl, hall, hd⟩ := hrel
                    have HAll := Lib.hid hall
                    have HD := Lib.hid hd
                    have H12 := Lib.hid (H11.out.step hd.below)
                    have HK12 := Lib.hid (HK11.out.below hd.below (Nat.le_refl _))
                    have HV12 := Lib.hid (HV11.out.below hd.below (Nat.le_refl _))
                    clear hall hd
                    by_cases ht5 : t < 5
                    · cases hkt : KM ks' ((k : Int) + (t : Int)) with
                      | none =>
                        have hlen : L11.length = t := HR11.out.count (d := t) HL11.out HE11.out (by omega) HAll.out (Or.inr hkt)
                        have HI := Lib.hid (fI_none hkt)
                        clear hkt
                        rw [hlen]
                        clear hlen hc11
                        go_wp2_with fail
                        refine (find_any _ HK12.out).mono ?_
                        rw [HI.out]
                        rintro e w' ⟨rfl, rfl⟩
                        go_wp2_with fail
                        go_roundw
                        case rel => exact ⟨k + 1, by omega, by go_num, H12.out, HK12.out⟩
                        case measure => simp [intOf]; omega
                      | some ys =>
                        have htl : t < L11.length := by
                          rcases Nat.lt_or_ge t L11.length with h | h
                          · exact h
                          · rcases HE11.out with he | he
                            · omega
                            · rcases Nat.lt_or_ge L11.length t with h' | h'
                              · exact absurd he (HAll.out _ h')
                              · have : L11.length = t := by omega
                                rw [this, hkt] at he; cases he
                        have hys := HR11.out t _ (List.getElem?_eq_getElem htl)
                        rw [hkt] at hys
                        obtain ⟨q, hq, hqk, hqs⟩ := fI_some hkt
                        have uys := H12.out.u8 hkt
                        obtain ⟨a12, c12, hv12, _, _, hx12⟩ := HV12.out.row
                        cases hv12
                        obtain ⟨ar, ur, rfl, hcr, hsr⟩ := hx12 t htl
                        rw [← Option.some.inj hys] at hsr
                        obtain ⟨ak, ck, hv5, hck, hmk, hxk⟩ := HK12.out.row
                        cases hv5
                        obtain ⟨ax, hax, _, hcx⟩ := hxk q hqk
                        cases hax
                        rw [hqs] at hcx
                        obtain ⟨ux, cx, rfl, _, _⟩ := hsr.form
                        have hkn : KM ks' ((k : Int) + (t : Int)) ≠ none := by rw [hkt]; simp
                        have HKn := Lib.hid hkn
                        have HI := Lib.hid hq
                        have rc : ∀ q : Nat, (convert 28 9 (.slice ux (u8s ys).length cx)).run Try.prog (wr.drewN q) = .ok (.string (strB ys)) (wr.drewN q) := fun q => run_strB Try.underlying28 Try.underlying5 Try.underlying9 (hsr.drewN q)
                        have htI : (t : Int) < (L11.length : Int) := by omega
                        have hqI : (q : Int) < (ks'.length : Int) := by omega
                        generalize (u8s ys).length = ny at *
                        generalize strB ys = sy at *
                        clear hys hq hqs hx12 hxk hsr hkt hkn uys
                        go_wp2_with fail
                        refine (find_any _ HK12.out).mono ?_
                        rw [HI.out]
                        rintro e w' ⟨rfl, rfl⟩
                        go_wp2_with fail
                        go_quiet (fail)
                        go_wp2_with fail
                        go_roundw
                        case rel => exact ⟨t + 1, by omega, by go_num, (fun z hz => by
                          by_cases e : z = t
                          · subst e; exact HKn.out
                          · exact HAll.out z (by omega)), HD.out.drewN _⟩
                        case measure => simp [intOf]; omega
                    · go_wp2_with fail
                      go_roundw
                      case rel => exact ⟨k + 1, by omega, by go_num, H12.out, HK12.out⟩
                      case measure => simp [intOf]; omega
                | some xk =>
                  obtain ⟨q0, hq0, hqk0, hqs0⟩ := fI_some hkk
                  have HKk := Lib.hid hkk
                  have HI0 := Lib.hid hq0
                  clear hkk hq0
                  go_wp2_with fail
                  refine (H9.out.get (slot := k) (by omega) (by omega)).mono ?_
                  rintro e w10 ⟨v10, x10, rfl, hv10, _, hx10, hb10⟩
                  rw [show (KM ks' (k : Int)).isSome = true by rw [HKk.out]; rfl]
                  have hx : x10 = xk := by
                    rcases hx10 with h | h
                    · rw [HKk.out] at h; cases h; rfl
                    · rw [HKk.out] at h; cases h.1
                  subst hx
                  have H10 := Lib.hid (H9.out.step hb10)
                  have HK10 := Lib.hid (HK9.out.below hb10 (Nat.le_refl _))
                  have HV10 := Lib.hid hv10
                  obtain ⟨av, cv, rfl, _, _⟩ := hv10.form
                  have HKz := HK10.out
                  obtain ⟨ak0, ck0, rfl, hck0, hmk0, hxk0⟩ := HKz.row
                  obtain ⟨ax0, rfl, _, hcx0⟩ := hxk0 q0 hqk0
                  rw [hqs0] at hcx0
                  have rc0 : ∀ q : Nat, (convert 28 9 (.slice av (u8s x10).length cv)).run Try.prog (w10.drewN q) = .ok (.string (strB x10)) (w10.drewN q) := fun q => run_strB Try.underlying28 Try.underlying5 Try.underlying9 (HV10.out.drewN q)
                  have hqI0 : (q0 : Int) < (ks'.length : Int) := by omega
                  generalize (u8s x10).length = nx0 at *
                  generalize strB x10 = sx0 at *
                  clear hv10 hx10 hb10 H9 HK9 hqs0 hxk0 HV10 HKz
                  go_wp2_with fail
                  refine (find_any _ HK10.out).mono ?_
                  rw [HI0.out]
                  rintro e w' ⟨rfl, rfl⟩
                  go_wp2_with fail
                  go_quiet (fail)
                  have H10d := fun q : Nat => H10.out.step (below_drewN (Below.refl w10.heap.size w10) q)
                  have H10d := Lib.hid H10d
                  have HK10d := Lib.hid (fun q : Nat => HK10.out.drewN q)
                  clear H10 HK10
                  go_wp2_with fail
                  refine ((H10d.out _).from (slot := k) (most := 5) (by omega) (by omega) (by decide)).mono ?_
                  rintro e w11 ⟨v11, L11, rfl, hv11, hr11, hl11, he11, hb11⟩
                  have H11 := Lib.hid ((H10d.out _).step hb11)
                  have HK11 := Lib.hid ((HK10d.out _).below hb11 (Nat.le_refl _))
                  have HV11 := Lib.hid hv11
                  have HR11 := Lib.hid hr11
                  have HL11 := Lib.hid hl11
                  have HE11 := Lib.hid he11
                  obtain ⟨a11, c11, rfl, hc11, hm11, _⟩ := hv11.row
                  clear hb11 hr11 hl11 he11 H10d HK10d hv11
                  go_wp2_with fail
                  go_loopw [17, 19] (fun _ i wr => ∃ t : Nat, t ≤ 5 ∧ i = .int .i64 t ∧ (∀ q : Nat, q < t → KM ks' (k + q) ≠ none) ∧ Drew w11 wr) (fun _ i _ => 5 - (intOf i).toNat)
                  case atStart => exact ⟨0, by omega, rfl, (fun q hq => by omega), Drew.refl _⟩
                  case round =>
                    obtain ⟨t, ht, rfl, hall, hd⟩ := hrel
                    have HAll := Lib.hid hall
                    have HD := Lib.hid hd
                    have H12 := Lib.hid (H11.out.step hd.below)
                    have HK12 := Lib.hid (HK11.out.below hd.below (Nat.le_refl _))
                    have HV12 := Lib.hid (HV11.out.below hd.below (Nat.le_refl _))
                    clear hall hd
                    by_cases ht5 : t < 5
                    · cases hkt : KM ks' ((k : Int) + (t : Int)) with
                      | none =>
                        have hlen : L11.length = t := HR11.out.count (d := t) HL11.out HE11.out (by omega) HAll.out (Or.inr hkt)
                        have HI := Lib.hid (fI_none hkt)
                        clear hkt
                        rw [hlen]
                        clear hlen hc11
                        go_wp2_with fail
                        refine (find_any _ HK12.out).mono ?_
                        rw [HI.out]
                        rintro e w' ⟨rfl, rfl⟩
                        go_wp2_with fail
                        go_roundw
                        case rel => exact ⟨k + 1, by omega, by go_num, H12.out, HK12.out⟩
                        case measure => simp [intOf]; omega
                      | some ys =>
                        have htl : t < L11.length := by
                          rcases Nat.lt_or_ge t L11.length with h | h
                          · exact h
                          · rcases HE11.out with he | he
                            · omega
                            · rcases Nat.lt_or_ge L11.length t with h' | h'
                              · exact absurd he (HAll.out _ h')
                              · have : L11.length = t := by omega
                                rw [this, hkt] at he; cases he
                        have hys := HR11.out t _ (List.getElem?_eq_getElem htl)
                        rw [hkt] at hys
                        obtain ⟨q, hq, hqk, hqs⟩ := fI_some hkt
                        have uys := H12.out.u8 hkt
                        obtain ⟨a12, c12, hv12, _, _, hx12⟩ := HV12.out.row
                        cases hv12
                        obtain ⟨ar, ur, rfl, hcr, hsr⟩ := hx12 t htl
                        rw [← Option.some.inj hys] at hsr
                        obtain ⟨ak, ck, hv5, hck, hmk, hxk⟩ := HK12.out.row
                        cases hv5
                        obtain ⟨ax, hax, _, hcx⟩ := hxk q hqk
                        cases hax
                        rw [hqs] at hcx
                        obtain ⟨ux, cx, rfl, _, _⟩ := hsr.form
                        have hkn : KM ks' ((k : Int) + (t : Int)) ≠ none := by rw [hkt]; simp
                        have HKn := Lib.hid hkn
                        have HI := Lib.hid hq
                        have rc : ∀ q : Nat, (convert 28 9 (.slice ux (u8s ys).length cx)).run Try.prog (wr.drewN q) = .ok (.string (strB ys)) (wr.drewN q) := fun q => run_strB Try.underlying28 Try.underlying5 Try.underlying9 (hsr.drewN q)
                        have htI : (t : Int) < (L11.length : Int) := by omega
                        have hqI : (q : Int) < (ks'.length : Int) := by omega
                        generalize (u8s ys).length = ny at *
                        generalize strB ys = sy at *
                        clear hys hq hqs hx12 hxk hsr hkt hkn uys
                        go_wp2_with fail
                        refine (find_any _ HK12.out).mono ?_
                        rw [HI.out]
                        rintro e w' ⟨rfl, rfl⟩
                        go_wp2_with fail
                        go_quiet (fail)
                        go_wp2_with fail
                        go_roundw
                        case rel => exact ⟨t + 1, by omega, by go_num, (fun z hz => by
                          by_cases e : z = t
                          · subst e; exact HKn.out
                          · exact HAll.out z (by omega)), HD.out.drewN _⟩
                        case measure => simp [intOf]; omega
                    · go_wp2_with fail
                      go_roundw
                      case rel => exact ⟨k + 1, by omega, by go_num, H12.out, HK12.out⟩
                      case measure => simp [intOf]; omega
              · go_wp2_with fail
                go_roundw
                case rel => exact ⟨j + 1, n + 1, ks', by omega, by go_num, by omega, by have := HSt.out; omega, H9.out, HK9.out⟩
                case measure => simp [intOf]; omega
      · go_wp2_with fail
        go_ret
        exact ⟨rfl, hb1.out.trans (HL.out.below.mono hb1.out.size)⟩
    · have hjl : sl.length = j := by omega
      subst hjl
      go_wp2_with (first
        | (go_at_call 18; refine (get_nil _ _).mono ?_; rintro e w' ⟨rfl, rfl⟩)
        | (go_at_call 9; refine (learn_nil _ _ _).mono ?_; rintro e w' ⟨rfl, rfl⟩)
        | (go_at_call 11; refine (next_nil _).mono ?_; rintro e w' ⟨rfl, rfl⟩)
        | (go_at_call 13; refine (top_nil _).mono ?_; rintro e w' ⟨rfl, rfl⟩)
        | (go_at_call 16; refine (gaps_nil _ _).mono ?_; rintro e w9 ⟨rfl, hb9⟩; have H9 := Lib.hid (HL.out.step hb9); clear hb9)
        | (go_at_call 20; refine (from_nil _ _ _).mono ?_; rintro e w' ⟨rfl, rfl⟩)
        | fail)
      go_ret
      exact ⟨rfl, hb1.out.trans (H9.out.below.mono hb1.out.size)⟩

theorem u64_range {xs : List Int} (h : ∀ x ∈ xs, (Lit.int .u64 x).wf = true) : ∀ x ∈ xs, 0 ≤ x ∧ x ≤ 18446744073709551615 := fun x hx => by
  have := h x hx
  simp [Lit.wf, IntKind.min, IntKind.max, IntKind.signed, IntKind.bits] at this
  omega
set_option maxRecDepth 100000 in
theorem learnerPlays_walk {v vl : Value} {sl : List Int} {L : List (List Int)} {most : Int} {W : World} (hs : SlR W v (u64s sl)) (us : ∀ x ∈ sl, (Lit.int .u64 x).wf = true) (hv : RowsK W .u8 vl L) (hu : ∀ r ∈ L, ∀ x ∈ r, (Lit.int .u8 x).wf = true) (wm : (Lit.int .i64 most).wf = true) :
    Calls Try.prog 3 #[v, vl, .int .i64 most] W fun e W' => e = .returned (.bool true) ∧ Below W.heap.size W W' := by
  simp [Lit.wf, IntKind.min, IntKind.max, IntKind.signed, IntKind.bits] at wm
  by_cases hl : sl.length ≤ 40
  · by_cases hL : sl.length ≤ L.length
    · by_cases hm : most ≤ 60
      · exact learnerPlays_in hs (u64_range us) hv (fun r hr => u8_of_wf (hu r hr)) hl hL (by omega) hm
      · obtain ⟨va, vc, rfl, hvc, hvm, _⟩ := hv.row
        obtain ⟨oa, oc, rfl, hoc, hom, _⟩ := hs.intsAt
        go_enter Try.func3, Try.ntmps3
        go_wp2_with (go_at_call 7; refine (awake_any W).mono ?_; rintro e w1 ⟨rfl, hb1⟩; have hb1 := Lib.hid hb1)
        go_ret
        exact ⟨rfl, hb1.out⟩
    · obtain ⟨va, vc, rfl, hvc, hvm, _⟩ := hv.row
      obtain ⟨oa, oc, rfl, hoc, hom, _⟩ := hs.intsAt
      go_enter Try.func3, Try.ntmps3
      go_wp2_with (go_at_call 7; refine (awake_any W).mono ?_; rintro e w1 ⟨rfl, hb1⟩; have hb1 := Lib.hid hb1)
      go_ret
      exact ⟨rfl, hb1.out⟩
  · obtain ⟨va, vc, rfl, hvc, hvm, _⟩ := hv.row
    obtain ⟨oa, oc, rfl, hoc, hom, _⟩ := hs.intsAt
    go_enter Try.func3, Try.ntmps3
    go_wp2_with (go_at_call 7; refine (awake_any W).mono ?_; rintro e w1 ⟨rfl, hb1⟩; have hb1 := Lib.hid hb1)
    go_ret
    exact ⟨rfl, hb1.out⟩

theorem learnerPlays_holds : Rows.LearnerPlaysSaid :=
  OpenClaim.holds_of_wide 3 Try.f3 rfl rfl rfl rfl rfl rfl rfl ⟨rfl, rfl, rfl, rfl, rfl⟩ rfl rfl rfl rfl rfl (by kernel_rfl) Try.func3 (by kernel_rfl)
    (of_decide_eq_true (by kernel_rfl)) (by unfold Func.isWrapper; rw [if_neg (by decide +kernel)]; exact ⟨rfl, rfl⟩)
    (fun os started H enc _ => law_frame (C := Try.checked) (fn := Try.f3) (s := Rows.learnerPlaysSpec) (tb := 4) Try.own started (by kernel_rfl) Try.func3 Try.laidOut rfl (by kernel_rfl) Try.underlying4 (by kernel_rfl)
      (fun ds hd => by match ds, hd with | [_, _, _], _ => exact ⟨rfl, rfl, rfl⟩)
      (ChangeSpec.witness6 (enc := enc) (C := Try.checked) false ⟨#[], #[.slice none 0 0, .slice none 0 0, .int .i64 0], []⟩ 8 (by kernel_rfl) (by kernel_rfl) (by kernel_rfl) (by kernel_rfl))
      (fun W base args ds p hval0 hA0 _ => by
        have hval : ∀ (j : Nat) t v, Try.f3.params[j]? = some t → args[j]? = some v → Value.okWide Try.prog W .any base t v := hval0
        have hA : DataW.TrodAll enc Try.prog W 0 (fun _ => true) true Try.f3.params.toList args.toList ds p := hA0
        rw [Try.params3] at hA hval
        obtain ⟨v0, v1, v2, d0, d1, d2, p0, p1, p2, rfl, rfl, rfl, h0, h1, h2⟩ := trodAll_three hA
        obtain ⟨x0, hx0, wx0⟩ := arg_ints Try.underlying22 Try.underlying29 (by kernel_rfl) (hval 0 22 v0 rfl rfl) h0
        obtain ⟨x1, hx1, wx1⟩ := arg_rowsK Try.underlying23 Try.underlying28 Try.underlying5 (by kernel_rfl) (by kernel_rfl) (hval 1 23 v1 rfl rfl) h1
        obtain ⟨x2, rfl, rfl, rfl, wx2⟩ := open_int Try.underlying3 (hval 2 3 v2 rfl rfl) h2
        exact learnerPlays_walk hx0 wx0 hx1 wx1 wx2))

end Go.Proofs.Ytfkganccglmmlaa
