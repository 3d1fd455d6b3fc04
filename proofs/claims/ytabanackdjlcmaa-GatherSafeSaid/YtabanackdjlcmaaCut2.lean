/-
  The walk of a cut.
-/
import Derived.Test.YtabanackdjlcmaaCutQ
import Derived.Test.YtabanackdjlcmaaRegU
namespace Go.Proofs.Ytabanackdjlcmaa
open Go.ChangeShapes Go.WideShapes Go.ChangeAt Go.RowKit Go.Maps
set_option maxRecDepth 100000

set_option maxHeartbeats 4000000 in
theorem cut_walk {D : Nat → Prop} {w : World} {b0 bs bt N : Nat} {lv v : Value} {F : FS} {rs : Rw} (h : FoldR w D b0 bs bt N lv F) (hvk : ∀ w', Keep D w w' → RowsL w' v rs) (hl : rs.length ≤ 8) (hFl : F.l.length ≤ 1000000000) (hN : N ≤ 900000000) (hok : rowsB rs = true) (hu : ∀ r ∈ rs, U64 r.2) :
    Calls Try.prog 65 #[.pointer (some ⟨b0, 0, none⟩), v] w (CutPost D w b0 bs bt N F rs) := by
  have H := Lib.hid h
  have HUa := Lib.hid hu
  have HVK := Lib.hid hvk
  have hv := hvk w (Keep.refl _ _)
  have HV := Lib.hid hv
  obtain ⟨i0, hi, hz0, hz1, hz2⟩ := info_parts Try.spanInfo
  obtain ⟨j0, hj, hy0, hy1, hy2⟩ := info_parts Try.vecInfo
  obtain ⟨c0, c1, c2, c3, c4, _⟩ := h.cell
  obtain ⟨ao, c, rfl, hc1, hc2, _⟩ := id hv
  have hrl : ∀ r ∈ rs, r.2.length ≤ 4 := fun r hr => by
    obtain ⟨k, hk, rfl⟩ := List.getElem_of_mem hr
    exact (rows_row hok (List.getElem?_eq_getElem hk)).2.2.1
  have HLb : Hid (∀ k, k ≤ rs.length → ∀ m ≤ 4, ∀ (lens xs : List Int) (id : Int), (rowsSp F (rs.take k) ++ newSp lens id xs m).length ≤ 1000) := Lib.hid (fun k hk m hm lens xs id => by
    have h1 := rowsSp_len (F := F) (rs := rs.take k) (fun r hr => hrl r (List.mem_of_mem_take hr))
    have h2 := newSp_len lens id xs m
    have h3 : (rs.take k).length ≤ 8 := by simp; omega
    rw [List.length_append]; omega)
  have HRl := Lib.hid hrl
  clear h hv hvk hrl
  go_enter Try.func65, Try.ntmps65
  go_wp2_with fail
  have hA := CutA.start w F
  have HA := Lib.hid hA
  clear hA
  go_loopw [28, 5, 6, 10, 11, 12, 13] (fun i l al _ _ _ _ wr => ∃ k : Nat, k ≤ rs.length ∧ i = .int .i64 k ∧ (∀ j (r : Int × List Int), j < k → rs[j]? = some r → rowE F r = 0) ∧ CutA w F (rowsSp F (rs.take k)) l al wr) (fun i _ _ _ _ _ _ _ => rs.length - (intOf i).toNat)
  case atStart => exact ⟨0, by omega, rfl, (fun j r hj => by omega), HA.out⟩
  case round =>
    obtain ⟨k, hk, rfl, hE, hca⟩ := hrel
    obtain ⟨wo, rfl⟩ : ∃ wo : World, wo = wr := ⟨_, rfl⟩
    have HE := Lib.hid hE
    have HC := Lib.hid hca
    have hbw := hca.below
    have HB := Lib.hid hbw
    clear hE hca
    by_cases hlt : k < rs.length
    · have hk0 := List.getElem?_eq_getElem hlt
      obtain ⟨a, so, sc, rfl, q0, q1, hs, hs1, hs2⟩ := (HV.out.below hbw (Nat.le_refl _)).at k _ hk0
      have hur := hu rs[k] (List.getElem_mem hlt)
      have hrt := rowsSp_take F rs k hlt
      have HK0 := Lib.hid hk0
      generalize rs[k] = r at *
      obtain ⟨id, xs⟩ := r
      simp only at q0 q1 hs hs1 hur
      have HRt := Lib.hid hrt
      have HS := Lib.hid hs
      have HUr := Lib.hid hur
      have HXw : Hid (SlR w (.slice so xs.length sc) (u64s xs)) := Lib.hid (by
        obtain ⟨a9, so9, sc9, e9, _, q9, hs9, _, _⟩ := HV.out.at k _ HK0.out
        cases e9
        have := (HB.out.cell (World.block_lt_of_cell? w _ q9)).trans q9
        rw [q1] at this
        cases this
        exact hs9)
      have hA := (Below.refl wo.heap.size wo).alloc (Nat.le_refl _) (.cells #[.int .i64 id, .slice so xs.length sc] 37)
      have HR := Lib.hid (H.out.below (hbw.trans (hA.mono hbw.size)) (Nat.le_refl _))
      have HCA := Lib.hid (HC.out.step hA)
      have hblk := heap_alloc_new wo (.cells #[.int .i64 id, .slice so xs.length sc] 37)
      have HBlk := Lib.hid hblk
      clear hk0 hrt hs hur hA hblk hbw
      obtain ⟨hid0, hid8, hxl, hxc⟩ := rows_row hok HK0.out
      simp only at hid0 hid8 hxl hxc
      have hid : IdOk id := ⟨hid0, by omega⟩
      cases hsh : F.sh id with
      | none =>
        have hrE : rowE F (id, xs) = 30 := by unfold rowE; simp only; rw [hsh]
        have hcE : Hid (cutE F rs = 30) := Lib.hid (by rw [cutE_at HE.out HK0.out (by rw [hrE]; decide), hrE])
        have HLv := Lib.hid (live_none HR.out hid hsh)
        go_wp2_with fail
        refine HLv.out.mono ?_
        rintro e w3 ⟨rfl, hb3⟩
        have HB3 := Lib.hid hb3
        unfold zeroSh
        clear hb3
        go_wp2_with fail
        go_ret
        exact CutPost.err hcE.out (by decide) (below3 HB.out HB.out.size HB3.out _)
      | some s =>
        have HSm := Lib.hid (H.out.small id s hsh)
        by_cases hfin : s.fin = true
        · have hrE : rowE F (id, xs) = 34 := by unfold rowE; simp only; rw [hsh]; simp only; rw [if_pos hfin]
          have hcE : Hid (cutE F rs = 34) := Lib.hid (by rw [cutE_at HE.out HK0.out (by rw [hrE]; decide), hrE])
          have HLv := Lib.hid (live_sealed HR.out hid hsh hfin)
          go_wp2_with fail
          refine HLv.out.mono ?_
          rintro e w3 ⟨rfl, hb3⟩
          have HB3 := Lib.hid hb3
          unfold zeroSh
          clear hb3
          go_wp2_with fail
          go_ret
          exact CutPost.err hcE.out (by decide) (below3 HB.out HB.out.size HB3.out _)
        · have hfin : s.fin = false := by simpa using hfin
          have HLv := Lib.hid (live_ok HR.out hid hsh hfin)
          have HSh := Lib.hid hsh
          clear hsh
          go_wp2_with fail
          refine HLv.out.mono ?_
          rintro e w3 ⟨lo, lc, rfl, hslw, hsl, hl1, hl2, hb3⟩
          have HLd : Hid (∀ k, (Value.slice lo s.lens.length lc).ownBlock = some k → k < w.heap.size) := Lib.hid (fun k hk => H.out.lt k (hslw k hk))
          clear hslw
          have HSl := Lib.hid hsl
          have HB3 := Lib.hid hb3
          have hk3 := (hb3.block wo.heap.size (by simp)).trans HBlk.out
          have x0 : w3.cell? ⟨wo.heap.size, 0, none⟩ = some (.int .i64 id) := World.news_of_block hk3 0 _ rfl
          have x1 : w3.cell? ⟨wo.heap.size, 1, none⟩ = some (.slice so xs.length sc) := World.news_of_block hk3 1 _ rfl
          have hAs := (Below.refl w3.heap.size w3).alloc (Nat.le_refl _) (.cells #[.int .i64 s.id, .int .i64 s.segs, .slice lo s.lens.length lc, .bool false] 35)
          have hw3 : wo.heap.size + 1 ≤ w3.heap.size := by have := hb3.size; simpa using this
          have hblkS := heap_alloc_new w3 (.cells #[.int .i64 s.id, .int .i64 s.segs, .slice lo s.lens.length lc, .bool false] 35)
          have y1 : (w3.alloc (.cells #[.int .i64 s.id, .int .i64 s.segs, .slice lo s.lens.length lc, .bool false] 35)).cell? ⟨w3.heap.size, 1, none⟩ = some (.int .i64 s.segs) := World.news_of_block hblkS 1 _ rfl
          have y2 : (w3.alloc (.cells #[.int .i64 s.id, .int .i64 s.segs, .slice lo s.lens.length lc, .bool false] 35)).cell? ⟨w3.heap.size, 2, none⟩ = some (.slice lo s.lens.length lc) := World.news_of_block hblkS 2 _ rfl
          have z0 : (w3.alloc (.cells #[.int .i64 s.id, .int .i64 s.segs, .slice lo s.lens.length lc, .bool false] 35)).cell? ⟨wo.heap.size, 0, none⟩ = some (.int .i64 id) := (hAs.cell (p := ⟨wo.heap.size, 0, none⟩) (by show wo.heap.size < _; omega)).trans x0
          have z1 : (w3.alloc (.cells #[.int .i64 s.id, .int .i64 s.segs, .slice lo s.lens.length lc, .bool false] 35)).cell? ⟨wo.heap.size, 1, none⟩ = some (.slice so xs.length sc) := (hAs.cell (p := ⟨wo.heap.size, 1, none⟩) (by show wo.heap.size < _; omega)).trans x1
          have HSl4 := Lib.hid (HSl.out.below hAs (Nat.le_refl _))
          have hbr4 : Below wo.heap.size wo (w3.alloc (.cells #[.int .i64 s.id, .int .i64 s.segs, .slice lo s.lens.length lc, .bool false] 35)) := ((Below.refl wo.heap.size wo).alloc (Nat.le_refl _) _).trans ((HB3.out.trans (hAs.mono HB3.out.size)).mono (by simp))
          have HX4 := Lib.hid (HS.out.below hbr4 (Nat.le_refl _))
          have HC4 := Lib.hid (HC.out.step hbr4)
          have HLe := Lib.hid (le_any HSl4.out HX4.out)
          have hE15 : (s.segs < xs.length ∨ leB s.lens xs = false) → cutE F rs = 15 := fun hh => by
            have hrE : rowE F (id, xs) = 15 := by unfold rowE; simp only; rw [HSh.out]; simp only; rw [if_neg (by rw [hfin]; decide), if_pos hh]
            rw [cutE_at HE.out HK0.out (by rw [hrE]; decide), hrE]
          have HE15 := Lib.hid hE15
          clear hsl hb3 hk3 x0 x1 hAs hblkS hbr4 hE15
          by_cases hseg : s.segs < xs.length
          · have hcE := Lib.hid (HE15.out (Or.inl hseg))
            have hsi : (s.segs : Int) < (xs.length : Int) := by omega
            go_wp2_with fail
            go_ret
            exact CutPost.err hcE.out (by decide) (below3 HB.out HB.out.size HB3.out _)
          · have hsd : decide ((s.segs : Int) < (xs.length : Int)) = false := decide_eq_false (by omega)
            cases hle : leB s.lens xs with
            | false =>
              have hcE := Lib.hid (HE15.out (Or.inr hle))
              rw [hle] at HLe
              go_wp2_with (go_at_call 20; ((with_reducible refine HLe.out.mono ?_); rintro e w' ⟨rfl, rfl⟩))
              go_ret
              exact CutPost.err hcE.out (by decide) (below3 HB.out HB.out.size HB3.out _)
            | true =>
              rw [hle] at HLe
              have HLE := Lib.hid hle
              clear hle
              go_wp2_with (first
                | (go_at_call 20; ((with_reducible refine HLe.out.mono ?_); rintro e w' ⟨rfl, rfl⟩))
                | fail)
              have hsp0 : newSp s.lens id xs 0 = [] := rfl
              have HC5 : Hid (CutA w F (rowsSp F (rs.take k) ++ newSp s.lens id xs 0) u5 u6 (w3.alloc (.cells #[.int .i64 s.id, .int .i64 s.segs, .slice lo s.lens.length lc, .bool false] 35))) := Lib.hid (by rw [hsp0, List.append_nil]; exact HC4.out)
              have HAp5 : Hid (Apart2 u5 u6 wo.heap.size w3.heap.size) := Lib.hid (HC.out.apart2 (Nat.le_refl _) (by omega))
              obtain ⟨w5, hw5⟩ : ∃ w5, w5 = (w3.alloc (.cells #[.int .i64 s.id, .int .i64 s.segs, .slice lo s.lens.length lc, .bool false] 35)) := ⟨_, rfl⟩
              rw [← hw5] at y1 y2 z0 z1 HSl4 HX4 HC5 HC4 ⊢
              clear hw5 HC4 hsp0
              go_loopw [59, 5, 6, 11, 12, 13] (fun i l al _ _ _ wq => ∃ m : Nat, m ≤ xs.length ∧ i = .int .i64 m ∧ CutA w F (rowsSp F (rs.take k) ++ newSp s.lens id xs m) l al wq ∧ wq.cell? ⟨wo.heap.size, 0, none⟩ = some (.int .i64 id) ∧ wq.cell? ⟨w3.heap.size, 2, none⟩ = some (.slice lo s.lens.length lc) ∧ Apart2 l al wo.heap.size w3.heap.size) (fun i _ _ _ _ _ _ => xs.length - (intOf i).toNat)
              case atStart => exact ⟨0, by omega, rfl, HC5.out, z0, y2, HAp5.out⟩
              case round =>
                obtain ⟨wq, rfl⟩ : ∃ wq : World, wq = wr := ⟨_, rfl⟩
                obtain ⟨m, hm, rfl, hcq, z0q, y2q, hap⟩ := hrel
                have HAp := Lib.hid hap
                clear hap
                have HQ := Lib.hid hcq
                have hbq := hcq.below
                have HBq := Lib.hid hbq
                clear hcq
                by_cases hmx : m < xs.length
                · have hxv := HXw.out.below hbq (Nat.le_refl _)
                  obtain ⟨xo, xc, hxe, _, _, hxx⟩ := hxv.intsAt
                  cases hxe
                  obtain ⟨xa, rfl, hxm⟩ := hxx m hmx
                  have hAt := at_any (i := (m : Int)) (HSl4.out.via HC5.out.below hbq HLd.out)
                  have HAt := Lib.hid hAt
                  have hmi : (m : Int) < (xs.length : Int) := by omega
                  have hus := newSp_succ s.lens id xs m
                  have hxr := HUr.out.at m
                  have hor := HSm.out.2.2.2.2.at m
                  generalize atI xs m = xm at *
                  generalize atI s.lens m = om at *
                  have HUs := Lib.hid hus
                  clear hxv hxx hAt hus hbq
                  by_cases hgt : om < xm
                  · obtain ⟨L, hL⟩ : ∃ L, L = rowsSp F (rs.take k) ++ newSp s.lens id xs m := ⟨_, rfl⟩
                    rw [← hL] at HQ
                    have HL := Lib.hid hL
                    clear hL
                    obtain ⟨l1, l2, hl5, hl6, hl7⟩ := own_form HQ.out.spans
                    subst hl5
                    obtain ⟨n1, n2, hn5, hn6, hn7⟩ := own_form HQ.out.nums
                    subst hn5
                    have hu1 : ∀ u ∈ (#[.int .u64 0, .int .i64 id, .int .i64 m, .int .u64 om, .int .u64 (xm - om)] : Array Value).toList, u.oneCell' = true := by
                      intro u hu; simp at hu; rcases hu with rfl | rfl | rfl | rfl | rfl <;> rfl
                    have Hu1 := Lib.hid hu1
                    have hLk := HLb.out k (by omega) m (by omega) s.lens xs id
                    rw [← HL.out] at hLk
                    have hLl : L.length ≤ 1099511627776 := by omega
                    have hLl1 : L.length + 1 ≤ 1099511627776 := by omega
                    have hbs := HBq.out.size
                    have hwr : IntKind.u64.wrap (xm - om) = xm - om := IntWalk.u64_in _ (by omega)
                    have hspan := fun g cap w7 => HQ.out.span (s := ⟨0, id, m, om, xm - om⟩) (t := 60) (g := g) (cap := cap) (w' := w7)
                    have HSpan := Lib.hid hspan
                    clear hu1 hspan
                    go_wp2_with (first
                      | (go_at_call 19; ((with_reducible refine HAt.out.mono ?_); rintro e w' ⟨rfl, rfl⟩))
                      | (at_builtin; (refine wpList_appS rfl (.tmp 71) (.tmp 80) 58 rfl w.heap.size 60 i0 _ 5 40 Try.underlying58 hi hz0 hz1 hz2 rfl (by decide) (by decide) rfl rfl rfl rfl HQ.out.spans Hu1.out hLl hbs ?_)
                         intro g cap w7 hown7 hg7 hor7
                         obtain ⟨hsp7, hnu7, hap7, hbw7, hkp7, hsz7⟩ := HSpan.out g cap w7 hown7 hg7 hor7
                         have HSp7 := Lib.hid hsp7
                         have HNu7 := Lib.hid hnu7
                         have HAp7 := Lib.hid hap7
                         have HBw7 := Lib.hid hbw7
                         have HKp7 := Lib.hid hkp7
                         have HOr7 := Lib.hid hor7
                         have HSz7 := Lib.hid hsz7
                         have hbs7 := hbw7.size
                         clear hsp7 hnu7 hap7 hbw7 hkp7 hown7 hg7 hor7 hsz7)
                      | (at_builtin; (refine wpList_app1 rfl (.tmp 82) (.tmp 86) 27 rfl w.heap.size 39 j0 (.int .u64 0) 8 Try.underlying27 hj hy0 hy1 hy2 rfl (by decide) rfl rfl HNu7.out rfl hLl1 hbs7 ?_)
                         intro g8 cap8 w8 hown8 hb8 hor8 hkp8
                         have HOw8 := Lib.hid hown8
                         have HB8 := Lib.hid hb8
                         have HOr8 := Lib.hid hor8
                         have HKp8 := Lib.hid hkp8
                         clear hown8 hb8 hor8 hkp8)
                      | fail)
                    obtain ⟨hC8, hA8, hk8a, hk8b⟩ := CutA.both (s := ⟨0, id, m, om, xm - om⟩) HQ.out HSp7.out HAp7.out HOr7.out HKp7.out HSz7.out HBw7.out HOw8.out HB8.out HOr8.out HKp8.out HAp.out (World.block_lt_of_cell? wq _ z0q) (World.block_lt_of_cell? wq _ y2q)
                    have z08 := (World.cell?_of_block (a := ⟨wo.heap.size, 0, none⟩) hk8a).trans z0q
                    have y28 := (World.cell?_of_block (a := ⟨w3.heap.size, 2, none⟩) hk8b).trans y2q
                    have hE8 : rowsSp F (rs.take k) ++ newSp s.lens id xs (m + 1) = L ++ [⟨0, id, m, om, xm - om⟩] := by
                      rw [HUs.out, if_pos hgt, HL.out, List.append_assoc]
                    have HE8 := Lib.hid hE8
                    have HC8 := Lib.hid hC8
                    have HA8 := Lib.hid hA8
                    clear hC8 hA8 hk8a hk8b hE8
                    go_roundw
                    case rel => exact ⟨m + 1, by omega, by go_num, by rw [HE8.out]; exact HC8.out, z08, y28, HA8.out⟩
                    case measure => simp [intOf]; omega
                  · have HE8 : Hid (rowsSp F (rs.take k) ++ newSp s.lens id xs (m + 1) = rowsSp F (rs.take k) ++ newSp s.lens id xs m) := Lib.hid (by rw [HUs.out, if_neg hgt, List.append_nil])
                    go_wp2_with (first
                      | (go_at_call 19; ((with_reducible refine HAt.out.mono ?_); rintro e w' ⟨rfl, rfl⟩))
                      | fail)
                    go_roundw
                    case rel => exact ⟨m + 1, by omega, by go_num, by rw [HE8.out]; exact HQ.out, z0q, y2q, HAp.out⟩
                    case measure => simp [intOf]; omega
                · have hmx' : m = xs.length := by omega
                  subst hmx'
                  have hrE : rowE F (id, xs) = 0 := by
                    unfold rowE; simp only; rw [HSh.out]; simp only; rw [if_neg (by rw [hfin]; decide), if_neg (by rw [HLE.out]; simp; omega)]
                  have hsp : rowSp F (id, xs) = newSp s.lens id xs xs.length := by unfold rowSp lensOf; simp only; rw [HSh.out]
                  have HK1 : Hid (CutA w F (rowsSp F (rs.take (k + 1))) u5 u6 wq) := Lib.hid (by rw [HRt.out, hsp]; exact HQ.out)
                  have HE1 : Hid (∀ j (r : Int × List Int), j < k + 1 → rs[j]? = some r → rowE F r = 0) := Lib.hid (fun j r hj hr => by
                    rcases Nat.lt_or_ge j k with h | h
                    · exact HE.out j r h hr
                    · have : j = k := by omega
                      subst this
                      rw [HK0.out] at hr; cases hr; exact hrE)
                  clear hrE hsp
                  go_wp2_with fail
                  go_roundw
                  case rel => exact ⟨k + 1, by omega, by go_num, HE1.out, HK1.out⟩
                  case measure => simp [intOf]; omega
    · have hkl : k = rs.length := by omega
      subst hkl
      rw [List.take_length] at HC
      have hun : U64 (F.n :: manyOf (rowsSp F rs)) := rows_u64 H.out HUa.out
      have HSum := Lib.hid (sum_any (SlR.of_own HC.out.nums) hun)
      have hrE0 : rowsE F rs = 0 := rowsE_none (fun j x hj hx => HE.out j x hj hx)
      have hcE : cutE F rs = sumE (F.n :: manyOf (rowsSp F rs)) := by unfold cutE; rw [if_pos hrE0]
      have HcE := Lib.hid hcE
      have HN0 := Lib.hid hun
      clear hrE0 hcE hun
      by_cases hov : sumI (F.n :: manyOf (rowsSp F rs)) ≤ 18446744073709551615
      · have e1 : sumE (F.n :: manyOf (rowsSp F rs)) = 0 := by unfold sumE; rw [if_pos hov]
        rw [e1] at HSum HcE
        have HOv := Lib.hid hov
        clear e1 hov
        generalize sumV (F.n :: manyOf (rowsSp F rs)) = sv at HSum
        obtain ⟨l1, l2, hl5, hl6, hl7⟩ := own_form HC.out.spans
        subst hl5
        have hB2 : CutB w D b0 bs bt N (midF F (rowsSp F rs) 0) (rowsSp F rs) (.slice l1 (rowsSp F rs).length l2) wo D lv :=
          ⟨by rw [midF_zero]; exact H.out.below HB.out (Nat.le_refl _), Below.keep0 D HB.out, fun k hk => hk, fun k hk => Or.inl hk, HC.out.spans, fun k hk hd => by
            have h1 := (HC.out.spans.lt k hk).1
            have h2 := H.out.lt k hd
            omega⟩
        have HB2 := Lib.hid hB2
        have HLn : Hid ((rowsSp F rs).length ≤ 1000) := Lib.hid (by
          have := HLb.out rs.length (Nat.le_refl _) 0 (by omega) [] [] 0
          rw [List.take_length, List.length_append] at this
          omega)
        have HMn : Hid (∀ s ∈ rowsSp F rs, 0 ≤ s.many ∧ s.many ≤ 18446744073709551615) := Lib.hid (fun s hs => HN0.out s.many (by simp [manyOf]; exact Or.inr ⟨s, hs, rfl⟩))
        clear hB2
        have hLLe := HLn.out
        obtain ⟨L, hLe⟩ : ∃ L, L = rowsSp F rs := ⟨_, rfl⟩
        have HLe := Lib.hid hLe
        rw [← hLe] at HB2 HLn HMn HOv hLLe HC HN0 ⊢
        clear hLe
        go_wp2_with fail
        refine HSum.out.mono ?_
        rintro e w' ⟨rfl, rfl⟩
        go_wp2_with fail
        go_loopw [100, 17] (fun i _ wr => ∃ (j : Nat) (D' : Nat → Prop) (lv' : Value), j ≤ L.length ∧ i = .int .i64 j ∧ CutB w D b0 bs bt N (midF F L j) L (.slice l1 L.length l2) wr D' lv') (fun i _ _ => L.length - (intOf i).toNat)
        case atStart => exact ⟨0, D, lv, by omega, rfl, HB2.out⟩
        case round =>
          obtain ⟨j, D', lv', hj, rfl, hcb⟩ := hrel
          have HCB := Lib.hid hcb
          clear hcb
          by_cases hlt : j < L.length
          · have hx0 := List.getElem?_eq_getElem hlt
            have hxm := HMn.out L[j] (List.getElem_mem hlt)
            generalize L[j] = x at *
            obtain ⟨ad, rfl, q0, q1, q2, q3, q4⟩ := (SpL.of_own HCB.out.spans).at j x hx0
            have HMs := Lib.hid (midF_succ (F := F) hx0)
            have hn1 := midF_le HMn.out HOv.out (j + 1)
            rw [HMs.out] at hn1
            have hF0 := H.out.num.1
            obtain ⟨G, hG⟩ : ∃ G, G = midF F L j := ⟨_, rfl⟩
            have hGl := midF_len F L j
            have hGn := (midF_le HMn.out HOv.out j)
            rw [← hG] at HCB HMs hn1 hGl hGn
            obtain ⟨xp, xsh, xsg, xof, xmn⟩ := x
            simp only at q0 q1 q2 q3 q4 hxm hn1
            clear hG hx0
            have hwn : IntKind.u64.wrap (G.n + xmn) = G.n + xmn := IntWalk.u64_in _ (by omega)
            obtain ⟨k1, k2, hk5, hk6, hk7⟩ := own_form HCB.out.fold.own
            subst hk5
            obtain ⟨c0, c1, c2, c3, c4, z1, z2, z3⟩ := HCB.out.fold.cell
            have hb0 := HCB.out.fold.heap
            have hne0 : wr.heap.size ≠ b0 := by omega
            have hji : (j : Int) < (L.length : Int) := by omega
            have hA1 := (Below.refl wr.heap.size wr).alloc (Nat.le_refl _) (.cells #[.int .u64 xp, .int .i64 xsh, .int .i64 xsg, .int .u64 xof, .int .u64 xmn] 60)
            have d1 := (hA1.cell (p := ⟨b0, 1, none⟩) hb0).trans c1
            have d2 := (hA1.cell (p := ⟨b0, 2, none⟩) hb0).trans c2
            have HAll : Hid (∀ W', Below (wr.alloc (.cells #[.int .u64 G.n, .int .i64 xsh, .int .i64 xsg, .int .u64 xof, .int .u64 xmn] 60)).heap.size (wr.alloc (.cells #[.int .u64 G.n, .int .i64 xsh, .int .i64 xsg, .int .u64 xof, .int .u64 xmn] 60)) W' → (W'.cell? ⟨wr.heap.size, 0, none⟩ = some (.int .u64 G.n) ∧ W'.cell? ⟨wr.heap.size, 1, none⟩ = some (.int .i64 xsh) ∧ W'.cell? ⟨wr.heap.size, 2, none⟩ = some (.int .i64 xsg) ∧ W'.cell? ⟨wr.heap.size, 3, none⟩ = some (.int .u64 xof) ∧ W'.cell? ⟨wr.heap.size, 4, none⟩ = some (.int .u64 xmn)) ∧ (W'.cell? ⟨b0, 1, none⟩ = some (.slice k1 G.l.length k2) ∧ W'.cell? ⟨b0, 2, none⟩ = some (.int .u64 G.n))) := Lib.hid (fun W' hW' => spanCells hW' hb0 c1 c2)
            clear hA1
            go_wp2_with fail
            obtain ⟨W1, hW1⟩ : ∃ W1, W1 = (wr.alloc (.cells #[.int .u64 G.n, .int .i64 xsh, .int .i64 xsg, .int .u64 xof, .int .u64 xmn] 60)) := ⟨_, rfl⟩
            have HB1 : Hid (Below wr.heap.size wr W1) := Lib.hid (by rw [hW1]; exact (Below.refl _ _).alloc (Nat.le_refl _) _)
            have hsz1 : wr.heap.size + 1 ≤ W1.heap.size := by rw [hW1]; simp
            rw [← hW1] at HAll ⊢
            clear hW1 d1 d2 c0 c1 c2 c3 c4 z1 z2 z3 q0 q1 q2 q3 q4
            have HBb : Hid (Below wr.heap.size wr (W1.drew.alloc (.cells #[.int .u64 G.n, .int .i64 xsh, .int .i64 xsg, .int .u64 xof, .int .u64 xmn] 60))) := Lib.hid ((HB1.out.drew).alloc (by simp; omega) _)
            have HFb := Lib.hid (HCB.out.fold.below HBb.out (Nat.le_refl _))
            have HBl : Hid ((Value.slice k1 G.l.length k2).ownBlock ≠ some wr.heap.size) := Lib.hid (fun e => by have := HCB.out.fold.lt _ (HCB.out.fold.dl _ e).1; omega)
            have HBl0 : Hid ((Value.slice k1 G.l.length k2).ownBlock ≠ some b0) := Lib.hid (fun e => (HCB.out.fold.dl _ e).2.1 rfl)
            have hml1 : G.l.length + 1 ≤ maxLen := by unfold maxLen; omega
            have hml2 : (G.l.length + 1) * 40 ≤ 140737488355328 := by omega
            refine wp_region_noPanic ?_
            refine wp_region_U (fun w' => w'.cell? ⟨wr.heap.size, 0, none⟩ = some (.int .u64 G.n) ∧ w'.cell? ⟨wr.heap.size, 1, none⟩ = some (.int .i64 xsh) ∧ w'.cell? ⟨wr.heap.size, 2, none⟩ = some (.int .i64 xsg) ∧ w'.cell? ⟨wr.heap.size, 3, none⟩ = some (.int .u64 xof) ∧ w'.cell? ⟨wr.heap.size, 4, none⟩ = some (.int .u64 xmn)) (fun w' => w'.cell? ⟨b0, 1, none⟩ = some (.slice k1 G.l.length k2) ∧ w'.cell? ⟨b0, 2, none⟩ = some (.int .u64 G.n)) 18 (by kernel_rfl) ?_
            have hS0 := (HAll.out _ ((Below.refl _ W1).drew)).1
            have hS1 := (HAll.out _ ((Below.refl _ W1).drew)).2
            refine wpAnyU_take (i := 0) (v := ?_) false (by simp only [List.getElem?_toArray, List.getElem?_cons_zero]; rfl) (by kernel_rfl) (by kernel_rfl) (by kernel_rfl) (fun _ _ _ h => h) (by kernel_rfl) (by decide) (Or.inl ⟨by rfl, ?_⟩) ⟨hS0, (fun _ => hS1)⟩ ?_
            rotate_left
            · rintro w ⟨hSw, hSx⟩
              (try dsimp only at hSw)
              clear hSx
              go_simp
              first | done | with_reducible rfl
            (try simp only [Act.put, List.setIfInBounds_toArray, List.set_cons_zero, List.set_cons_succ])
            refine wpAnyU_take (i := 1) (v := ?_) false (by simp only [List.getElem?_toArray, List.getElem?_cons_succ, List.getElem?_cons_zero]; rfl) (by kernel_rfl) (by kernel_rfl) (by kernel_rfl) (fun _ _ _ h => h) (by kernel_rfl) (by decide) (Or.inl ⟨by rfl, ?_⟩) ⟨hS0, (fun _ => hS1)⟩ ?_
            rotate_left
            · rintro w ⟨hSw, hSx⟩
              (try dsimp only at hSw)
              clear hSx
              go_simp
              first | done | with_reducible rfl
            (try simp only [Act.put, List.setIfInBounds_toArray, List.set_cons_zero, List.set_cons_succ])
            refine wpAnyU_take (i := 2) (v := ?_) false (by simp only [List.getElem?_toArray, List.getElem?_cons_succ, List.getElem?_cons_zero]; rfl) (by kernel_rfl) (by kernel_rfl) (by kernel_rfl) (fun _ _ _ h => h) (by kernel_rfl) (by decide) (Or.inl ⟨by rfl, ?_⟩) ⟨hS0, (fun _ => hS1)⟩ ?_
            rotate_left
            · rintro w ⟨hSw, hSx⟩
              (try dsimp only at hSw)
              clear hSx
              go_simp
              first | done | with_reducible rfl
            (try simp only [Act.put, List.setIfInBounds_toArray, List.set_cons_zero, List.set_cons_succ])
            refine wpAnyU_take (i := 3) (v := ?_) false (by simp only [List.getElem?_toArray, List.getElem?_cons_succ, List.getElem?_cons_zero]; rfl) (by kernel_rfl) (by kernel_rfl) (by kernel_rfl) (fun _ _ _ h => h) (by kernel_rfl) (by decide) (Or.inl ⟨by rfl, ?_⟩) ⟨hS0, (fun _ => hS1)⟩ ?_
            rotate_left
            · rintro w ⟨hSw, hSx⟩
              (try dsimp only at hSw)
              clear hSx
              go_simp
              first | done | with_reducible rfl
            (try simp only [Act.put, List.setIfInBounds_toArray, List.set_cons_zero, List.set_cons_succ])
            refine wpAnyU_take (i := 4) (v := ?_) false (by simp only [List.getElem?_toArray, List.getElem?_cons_succ, List.getElem?_cons_zero]; rfl) (by kernel_rfl) (by kernel_rfl) (by kernel_rfl) (fun _ _ _ h => h) (by kernel_rfl) (by decide) (Or.inl ⟨by rfl, ?_⟩) ⟨hS0, (fun _ => hS1)⟩ ?_
            rotate_left
            · rintro w ⟨hSw, hSx⟩
              (try dsimp only at hSw)
              clear hSx
              go_simp
              first | done | with_reducible rfl
            (try simp only [Act.put, List.setIfInBounds_toArray, List.set_cons_zero, List.set_cons_succ])
            refine wpAnyU_take (i := 5) (v := ?_) true (by simp only [List.getElem?_toArray, List.getElem?_cons_succ, List.getElem?_cons_zero]; rfl) (by kernel_rfl) (by kernel_rfl) (by kernel_rfl) (fun _ _ _ h => h) (by kernel_rfl) (by decide) (Or.inl ⟨by rfl, ?_⟩) ⟨hS0, (fun _ => hS1)⟩ ?_
            rotate_left
            · rintro w ⟨hSw, hSx⟩
              (try dsimp only at hSw)
              have hSx := hSx rfl
              (try dsimp only at hSx)
              go_simp
              first | done | with_reducible rfl
            (try simp only [Act.put, List.setIfInBounds_toArray, List.set_cons_zero, List.set_cons_succ])
            refine wpAnyU_take (i := 6) (v := ?_) false (by simp only [List.getElem?_toArray, List.getElem?_cons_succ, List.getElem?_cons_zero]; rfl) (by kernel_rfl) (by kernel_rfl) (by kernel_rfl) (fun _ _ _ h => h) (by kernel_rfl) (by decide) (Or.inl ⟨by rfl, ?_⟩) ⟨hS0, (fun _ => hS1)⟩ ?_
            rotate_left
            · rintro w ⟨hSw, hSx⟩
              (try dsimp only at hSw)
              clear hSx
              go_simp
              first | done | with_reducible rfl
            (try simp only [Act.put, List.setIfInBounds_toArray, List.set_cons_zero, List.set_cons_succ])
            refine wpAnyU_take (i := 9) (v := ?_) false (by simp only [List.getElem?_toArray, List.getElem?_cons_succ, List.getElem?_cons_zero]; rfl) (by kernel_rfl) (by kernel_rfl) (by kernel_rfl) (fun _ _ _ h => h) (by kernel_rfl) (by decide) (Or.inl ⟨by rfl, ?_⟩) ⟨hS0, (fun _ => hS1)⟩ ?_
            rotate_left
            · rintro w ⟨hSw, hSx⟩
              (try dsimp only at hSw)
              clear hSx
              go_simp
              first | done | with_reducible rfl
            (try simp only [Act.put, List.setIfInBounds_toArray, List.set_cons_zero, List.set_cons_succ])
            refine wpAnyU_take (i := 10) (v := ?_) false (by simp only [List.getElem?_toArray, List.getElem?_cons_succ, List.getElem?_cons_zero]; rfl) (by kernel_rfl) (by kernel_rfl) (by kernel_rfl) (fun _ _ _ h => h) (by kernel_rfl) (by decide) (Or.inl ⟨by rfl, ?_⟩) ⟨hS0, (fun _ => hS1)⟩ ?_
            rotate_left
            · rintro w ⟨hSw, hSx⟩
              (try dsimp only at hSw)
              clear hSx
              go_simp
              first | done | with_reducible rfl
            (try simp only [Act.put, List.setIfInBounds_toArray, List.set_cons_zero, List.set_cons_succ])
            refine wpAnyU_take (i := 11) (v := ?_) false (by simp only [List.getElem?_toArray, List.getElem?_cons_succ, List.getElem?_cons_zero]; rfl) (by kernel_rfl) (by kernel_rfl) (by kernel_rfl) (fun _ _ _ h => h) (by kernel_rfl) (by decide) (Or.inl ⟨by rfl, ?_⟩) ⟨hS0, (fun _ => hS1)⟩ ?_
            rotate_left
            · rintro w ⟨hSw, hSx⟩
              (try dsimp only at hSw)
              clear hSx
              go_simp
              first | done | with_reducible rfl
            (try simp only [Act.put, List.setIfInBounds_toArray, List.set_cons_zero, List.set_cons_succ])
            refine wpAnyU_take (i := 12) (v := ?_) true (by simp only [List.getElem?_toArray, List.getElem?_cons_succ, List.getElem?_cons_zero]; rfl) (by kernel_rfl) (by kernel_rfl) (by kernel_rfl) (fun _ _ _ h => h) (by kernel_rfl) (by decide) (Or.inl ⟨by rfl, ?_⟩) ⟨hS0, (fun _ => hS1)⟩ ?_
            rotate_left
            · rintro w ⟨hSw, hSx⟩
              (try dsimp only at hSw)
              have hSx := hSx rfl
              (try dsimp only at hSx)
              go_simp
              first | done | with_reducible rfl
            (try simp only [Act.put, List.setIfInBounds_toArray, List.set_cons_zero, List.set_cons_succ])
            refine wpAnyU_take (i := 13) (v := ?_) false (by simp only [List.getElem?_toArray, List.getElem?_cons_succ, List.getElem?_cons_zero]; rfl) (by kernel_rfl) (by kernel_rfl) (by kernel_rfl) (fun _ _ _ h => h) (by kernel_rfl) (by decide) (Or.inl ⟨by rfl, ?_⟩) ⟨hS0, (fun _ => hS1)⟩ ?_
            rotate_left
            · rintro w ⟨hSw, hSx⟩
              (try dsimp only at hSw)
              clear hSx
              go_simp
              first | done | with_reducible rfl
            (try simp only [Act.put, List.setIfInBounds_toArray, List.set_cons_zero, List.set_cons_succ])
            refine wpAnyU_take (i := 14) (v := ?_) false (by simp only [List.getElem?_toArray, List.getElem?_cons_succ, List.getElem?_cons_zero]; rfl) (by kernel_rfl) (by kernel_rfl) (by kernel_rfl) (fun _ _ _ h => h) (by kernel_rfl) (by decide) (Or.inl ⟨by rfl, ?_⟩) ⟨hS0, (fun _ => hS1)⟩ ?_
            rotate_left
            · rintro w ⟨hSw, hSx⟩
              (try dsimp only at hSw)
              clear hSx
              go_simp
              first | done | with_reducible rfl
            (try simp only [Act.put, List.setIfInBounds_toArray, List.set_cons_zero, List.set_cons_succ])
            refine wpAnyU_take (i := 15) (v := ?_) false (by simp only [List.getElem?_toArray, List.getElem?_cons_succ, List.getElem?_cons_zero]; rfl) (by kernel_rfl) (by kernel_rfl) (by kernel_rfl) (fun _ _ _ h => h) (by kernel_rfl) (by decide) (Or.inl ⟨by rfl, ?_⟩) ⟨hS0, (fun _ => hS1)⟩ ?_
            rotate_left
            · rintro w ⟨hSw, hSx⟩
              (try dsimp only at hSw)
              clear hSx
              go_simp
              first | done | with_reducible rfl
            (try simp only [Act.put, List.setIfInBounds_toArray, List.set_cons_zero, List.set_cons_succ])
            refine wpAnyU_one (i := 7) (by kernel_rfl) (by simp only [List.getElem?_toArray, List.getElem?_cons_succ, List.getElem?_cons_zero]; rfl) ?_
            intro K hK
            go_simp
            clear hS0 hS1
            have hS0 := (HAll.out _ (((Below.refl _ W1).drew).alloc (by simp) (.cells #[.int .u64 G.n, .int .i64 xsh, .int .i64 xsg, .int .u64 xof, .int .u64 xmn] 60))).1
            have hS1 := (HAll.out _ (((Below.refl _ W1).drew).alloc (by simp) (.cells #[.int .u64 G.n, .int .i64 xsh, .int .i64 xsg, .int .u64 xof, .int .u64 xmn] 60))).2
            refine hK.out _ _ ⟨hS0, (fun _ => hS1)⟩ ?_
            clear hK
            (try simp only [Act.put, List.setIfInBounds_toArray, List.set_cons_zero, List.set_cons_succ])
            refine wpAnyU_one (i := 8) (by kernel_rfl) (by simp only [List.getElem?_toArray, List.getElem?_cons_succ, List.getElem?_cons_zero]; rfl) ?_
            intro K hK
            refine step_append_lies _ (by rfl) (.tmp 114) (.tmp 116) 58 (by rfl) 0 60 i0 _ 5 40 Try.underlying58 hi hz0 hz1 hz2 rfl (by omega) (.slice k1 G.l.length k2) G.l.length (spC G.l) (by rfl) HFb.out.own ⟨W1.heap.size, 0, none⟩ 1 1 [.int .u64 G.n, .int .i64 xsh, .int .i64 xsg, .int .u64 xof, .int .u64 xmn] (by rfl) (by rfl) (World.news_of_block (cs := #[.int .u64 G.n, .int .i64 xsh, .int .i64 xsg, .int .u64 xof, .int .u64 xmn]) (t := 60) (fr := (0, 0)) (heap_alloc_new _ _)) (by simp [Value.oneCell']) (by omega) hml1 hml2 (Nat.zero_le _) (W1.heap.size + 1) (by simp) ?_
            intro g cap w7 hown7 hg7 hor7 hlt7
            clear hS0 hS1
            have hS0 := keepG (HAll.out _ (((Below.refl _ W1).drew).alloc (by simp) (.cells #[.int .u64 G.n, .int .i64 xsh, .int .i64 xsg, .int .u64 xof, .int .u64 xmn] 60))).1 hg7 HBl.out
            have hS1 := keepG2 (HAll.out _ (((Below.refl _ W1).drew).alloc (by simp) (.cells #[.int .u64 G.n, .int .i64 xsh, .int .i64 xsg, .int .u64 xof, .int .u64 xmn] 60))).2 hg7 HBl0.out
            have h7c := (hg7.block b0 (HFb.out.lt _ HFb.out.d0) (fun e => HBl0.out e.symm)).trans HFb.out.cells
            have z71 : w7.frozen? ⟨b0, 1, none⟩ = false := by simp [World.frozen?, h7c]
            have h8c := heap_setCell_same w7 b0 1 _ _ (.slice (some ⟨g, 0, none⟩) (G.l.length + 1) cap) h7c
            have z82 : (w7.setCell ⟨b0, 1, none⟩ (.slice (some ⟨g, 0, none⟩) (G.l.length + 1) cap)).frozen? ⟨b0, 2, none⟩ = false := by simp [World.frozen?, h8c]
            have c82 : (w7.setCell ⟨b0, 1, none⟩ (.slice (some ⟨g, 0, none⟩) (G.l.length + 1) cap)).cell? ⟨b0, 2, none⟩ = some (.int .u64 G.n) := by simp [World.cell?, h8c]
            have HC9 := Lib.hid (HCB.out.next (x := ⟨G.n, xsh, xsg, xof, xmn⟩) HBb.out hown7 hg7 (by rcases hor7 with e | e; exact Or.inl e; exact Or.inr (by simp; omega)) hlt7 (by show G.n ≤ G.n + xmn; omega) hn1.2)
            clear h7c h8c hown7 hg7 hor7 hlt7
            refine hK.out _ _ ⟨hS0, (fun _ => hS1)⟩ ?_
            clear hK
            (try simp only [Act.put, List.setIfInBounds_toArray, List.set_cons_zero, List.set_cons_succ])
            refine wpAnyU_take (i := 16) (v := ?_) false (by simp only [List.getElem?_toArray, List.getElem?_cons_succ, List.getElem?_cons_zero]; rfl) (by kernel_rfl) (by kernel_rfl) (by kernel_rfl) (fun _ _ _ h => h) (by kernel_rfl) (by decide) (Or.inl ⟨by rfl, ?_⟩) ⟨hS0, (fun _ => hS1)⟩ ?_
            rotate_left
            · rintro w ⟨hSw, hSx⟩
              (try dsimp only at hSw)
              clear hSx
              go_simp
              first | done | with_reducible rfl
            (try simp only [Act.put, List.setIfInBounds_toArray, List.set_cons_zero, List.set_cons_succ])
            refine wpAnyU_take (i := 17) (v := ?_) false (by simp only [List.getElem?_toArray, List.getElem?_cons_succ, List.getElem?_cons_zero]; rfl) (by kernel_rfl) (by kernel_rfl) (by kernel_rfl) (fun _ _ _ h => h) (by kernel_rfl) (by decide) (Or.inl ⟨by rfl, ?_⟩) ⟨hS0, (fun _ => hS1)⟩ ?_
            rotate_left
            · rintro w ⟨hSw, hSx⟩
              (try dsimp only at hSw)
              clear hSx
              go_simp
              first | done | with_reducible rfl
            (try simp only [Act.put, List.setIfInBounds_toArray, List.set_cons_zero, List.set_cons_succ])
            refine wpAnyU_one (i := 18) (by kernel_rfl) (by simp only [List.getElem?_toArray, List.getElem?_cons_succ, List.getElem?_cons_zero]; rfl) ?_
            intro K hK
            go_simp
            have hS0 := keepS0 (o := 1) (v := (.slice (some ⟨g, 0, none⟩) (G.l.length + 1) cap)) hS0 hne0
            refine hK.out _ _ ⟨hS0, (fun h => absurd h (by decide))⟩ ?_
            clear hK
            (try simp only [Act.put, List.setIfInBounds_toArray, List.set_cons_zero, List.set_cons_succ])
            refine wpAnyU_take (i := 19) (v := ?_) false (by simp only [List.getElem?_toArray, List.getElem?_cons_succ, List.getElem?_cons_zero]; rfl) (by kernel_rfl) (by kernel_rfl) (by kernel_rfl) (fun _ _ _ h => h) (by kernel_rfl) (by decide) (Or.inl ⟨by rfl, ?_⟩) ⟨hS0, (fun h => absurd h (by decide))⟩ ?_
            rotate_left
            · rintro w ⟨hSw, hSx⟩
              (try dsimp only at hSw)
              clear hSx
              go_simp
              first | done | with_reducible rfl
            (try simp only [Act.put, List.setIfInBounds_toArray, List.set_cons_zero, List.set_cons_succ])
            refine wpAnyU_take (i := 20) (v := ?_) false (by simp only [List.getElem?_toArray, List.getElem?_cons_succ, List.getElem?_cons_zero]; rfl) (by kernel_rfl) (by kernel_rfl) (by kernel_rfl) (fun _ _ _ h => h) (by kernel_rfl) (by decide) (Or.inl ⟨by rfl, ?_⟩) ⟨hS0, (fun h => absurd h (by decide))⟩ ?_
            rotate_left
            · rintro w ⟨hSw, hSx⟩
              (try dsimp only at hSw)
              clear hSx
              go_simp
              first | done | with_reducible rfl
            (try simp only [Act.put, List.setIfInBounds_toArray, List.set_cons_zero, List.set_cons_succ])
            refine wpAnyU_one (i := 21) (by kernel_rfl) (by simp only [List.getElem?_toArray, List.getElem?_cons_succ, List.getElem?_cons_zero]; rfl) ?_
            intro K hK
            go_simp
            have hS0 := keepS0 (o := 2) (v := (.int .u64 (G.n + xmn))) hS0 hne0
            refine hK.out _ _ ⟨hS0, (fun h => absurd h (by decide))⟩ ?_
            clear hK
            (try simp only [Act.put, List.setIfInBounds_toArray, List.set_cons_zero, List.set_cons_succ])
            refine wpAnyU_done (by kernel_rfl) ?_ _
            refine NoPanic.normal ?_
            clear hS0 hS1
            have HC10 : Hid (CutB w D b0 bs bt N (midF F L (j + 1)) L (.slice (some ad) L.length l2) ((w7.setCell ⟨b0, 1, none⟩ (.slice (some ⟨g, 0, none⟩) (G.l.length + 1) cap)).setCell ⟨b0, 2, none⟩ (.int .u64 (G.n + xmn))) (fun k => D' k ∨ k = g) (.slice (some ⟨g, 0, none⟩) (G.l.length + 1) cap)) := Lib.hid (by rw [HMs.out]; exact HC9.out)
            go_wp2_with fail
            go_roundw
            case rel => exact ⟨j + 1, _, _, by omega, by go_num, HC10.out⟩
            case measure => simp [intOf]; omega
          · have hjl : j = L.length := by omega
            subst hjl
            have hC0 : CutC w D b0 bs bt N F (midF F L L.length) rs 0 wr D' lv' := ⟨by rw [List.take_zero, lenS_nil]; exact HCB.out.fold, HCB.out.keep, HCB.out.sub, HCB.out.new⟩
            have HC0 := Lib.hid hC0
            clear hC0
            go_wp2_with fail
            go_loopw [132, 19, 20] (fun i _ _ wr => ∃ (j : Nat) (D' : Nat → Prop) (lv' : Value), j ≤ rs.length ∧ i = .int .i64 j ∧ CutC w D b0 bs bt N F (midF F L L.length) rs j wr D' lv') (fun i _ _ _ => rs.length - (intOf i).toNat)
            case atStart => exact ⟨0, D', lv', by omega, rfl, HC0.out⟩
            clear HC0 HCB
            case round =>
            clear hj hlt
            obtain ⟨j, D', lv', hj, rfl, hcc⟩ := hrel
            have HCC := Lib.hid hcc
            clear hcc
            by_cases hlt : j < rs.length
            · have hk0 := List.getElem?_eq_getElem hlt
              obtain ⟨a, so, sc, rfl, q0, q1, hs, hs1, hs2⟩ := (HVK.out wr HCC.out.keep).at j _ hk0
              have hrE := HE.out j _ hlt hk0
              have hur := hu rs[j] (List.getElem_mem hlt)
              generalize rs[j] = r at *
              obtain ⟨id, xs⟩ := r
              simp only at q0 q1 hs hs1 hur
              have HK0 := Lib.hid hk0
              have HS := Lib.hid hs
              have HUr := Lib.hid hur
              clear hk0 hs hur
              obtain ⟨hid0, hid8, hxl, hxc⟩ := rows_row hok HK0.out
              simp only at hid0 hid8 hxl hxc
              have hid : IdOk id := ⟨hid0, by omega⟩
              obtain ⟨s, hsh⟩ : ∃ s, F.sh id = some s := by
                cases hsh : F.sh id with
                | none => unfold rowE at hrE; simp only at hrE; rw [hsh] at hrE; simp at hrE
                | some s => exact ⟨s, rfl⟩
              have HSm := Lib.hid (H.out.small id s hsh)
              obtain ⟨f, lo, lc, hf, hfid, hsl, hl1, hl2, ho⟩ := HCC.out.fold.shAt hid (s := s) (by show lenS F (rs.take j) id = some s; rw [lenS_at (rows_ne hok HK0.out)]; exact hsh)
              have HSh := Lib.hid hsh
              clear hsh hrE hsl ho
              obtain ⟨c0, c1, c2, c3, c4, z1, z2, z3⟩ := HCC.out.fold.cell
              have hb0 := HCC.out.fold.heap
              have hji : (j : Int) < (rs.length : Int) := by omega
              have HAll0 : Hid (∀ W', Below (wr.alloc (.cells #[.int .i64 id, .slice so xs.length sc] 37)).heap.size (wr.alloc (.cells #[.int .i64 id, .slice so xs.length sc] 37)) W' → (W'.cell? ⟨b0, 0, none⟩ = some (.map (some bs)) ∧ W'.cell? ⟨wr.heap.size, 0, none⟩ = some (.int .i64 id) ∧ (Instr.lookup 86 (.map (some bs)) (.int .i64 id) false).run Try.prog W' = .ok (.agg #[.int .i64 s.id, .int .i64 s.segs, .slice lo s.lens.length lc, .bool s.fin]) W')) := Lib.hid (fun W' hW' => by
                have hbb := ((Below.refl wr.heap.size wr).alloc (Nat.le_refl _) (.cells #[.int .i64 id, .slice so xs.length sc] 37)).trans (hW'.mono (by simp))
                have hk := (hW'.block wr.heap.size (by simp)).trans (heap_alloc_new wr (.cells #[.int .i64 id, .slice so xs.length sc] 37))
                refine ⟨(hbb.cell (p := ⟨b0, 0, none⟩) hb0).trans c0, World.news_of_block hk 0 _ rfl, ?_⟩
                have hl := shlook_one (hf.same (hbb.block bs hf.lt)) hid
                rw [hfid] at hl
                exact hl)
              clear c0 c1 c2 c3 c4 z1 z2 z3 hf hfid
              go_wp2_with fail
              obtain ⟨W1, hW1⟩ : ∃ W1, W1 = (wr.alloc (.cells #[.int .i64 id, .slice so xs.length sc] 37)) := ⟨_, rfl⟩
              have HB1 : Hid (Below wr.heap.size wr W1) := Lib.hid (by rw [hW1]; exact (Below.refl _ _).alloc (Nat.le_refl _) _)
              have hsz1 : wr.heap.size + 1 = W1.heap.size := by rw [hW1]; simp
              have HSz1 := Lib.hid hsz1
              have HK19 : Hid (W1.heap[wr.heap.size]? = some (.cells #[.int .i64 id, .slice so xs.length sc] 37)) := Lib.hid (by rw [hW1]; exact heap_alloc_new _ _)
              have HAll : Hid (∀ W', Below W1.heap.size W1 W' → (W'.cell? ⟨b0, 0, none⟩ = some (.map (some bs)) ∧ W'.cell? ⟨wr.heap.size, 0, none⟩ = some (.int .i64 id) ∧ (Instr.lookup 86 (.map (some bs)) (.int .i64 id) false).run Try.prog W' = .ok (.agg #[.int .i64 s.id, .int .i64 s.segs, .slice lo s.lens.length lc, .bool s.fin]) W')) := Lib.hid (by rw [hW1]; exact HAll0.out)
              rw [← hW1]
              clear hW1 HAll0 hsz1 q0 q1
              refine wp_region_noPanic ?_
              refine wp_region_U (fun w' => w'.cell? ⟨b0, 0, none⟩ = some (.map (some bs)) ∧ w'.cell? ⟨wr.heap.size, 0, none⟩ = some (.int .i64 id) ∧ (Instr.lookup 86 (.map (some bs)) (.int .i64 id) false).run Try.prog w' = .ok (.agg #[.int .i64 s.id, .int .i64 s.segs, .slice lo s.lens.length lc, .bool s.fin]) w') (fun w' => True) 99 (by kernel_rfl) ?_
              have hS0 := HAll.out _ ((Below.refl _ W1).drew)
              have hS1 : True := trivial
              refine wpAnyU_take (i := 0) (v := ?_) false (by simp only [List.getElem?_toArray, List.getElem?_cons_zero]; rfl) (by kernel_rfl) (by kernel_rfl) (by kernel_rfl) (fun _ _ _ h => h) (by kernel_rfl) (by decide) (Or.inl ⟨by rfl, ?_⟩) ⟨hS0, (fun _ => hS1)⟩ ?_
              rotate_left
              · rintro w ⟨hSw, hSx⟩
                (try dsimp only at hSw)
                clear hSx
                go_simp
                first | done | with_reducible rfl
              (try simp only [Act.put, List.setIfInBounds_toArray, List.set_cons_zero, List.set_cons_succ])
              refine wpAnyU_take (i := 1) (v := ?_) false (by simp only [List.getElem?_toArray, List.getElem?_cons_succ, List.getElem?_cons_zero]; rfl) (by kernel_rfl) (by kernel_rfl) (by kernel_rfl) (fun _ _ _ h => h) (by kernel_rfl) (by decide) (Or.inl ⟨by rfl, ?_⟩) ⟨hS0, (fun _ => hS1)⟩ ?_
              rotate_left
              · rintro w ⟨hSw, hSx⟩
                (try dsimp only at hSw)
                clear hSx
                go_simp
                first | done | with_reducible rfl
              (try simp only [Act.put, List.setIfInBounds_toArray, List.set_cons_zero, List.set_cons_succ])
              refine wpAnyU_take (i := 2) (v := ?_) false (by simp only [List.getElem?_toArray, List.getElem?_cons_succ, List.getElem?_cons_zero]; rfl) (by kernel_rfl) (by kernel_rfl) (by kernel_rfl) (fun _ _ _ h => h) (by kernel_rfl) (by decide) (Or.inl ⟨by rfl, ?_⟩) ⟨hS0, (fun _ => hS1)⟩ ?_
              rotate_left
              · rintro w ⟨hSw, hSx⟩
                (try dsimp only at hSw)
                clear hSx
                go_simp
                first | done | with_reducible rfl
              (try simp only [Act.put, List.setIfInBounds_toArray, List.set_cons_zero, List.set_cons_succ])
              refine wpAnyU_take (i := 3) (v := ?_) false (by simp only [List.getElem?_toArray, List.getElem?_cons_succ, List.getElem?_cons_zero]; rfl) (by kernel_rfl) (by kernel_rfl) (by kernel_rfl) (fun _ _ _ h => h) (by kernel_rfl) (by decide) (Or.inl ⟨by rfl, ?_⟩) ⟨hS0, (fun _ => hS1)⟩ ?_
              rotate_left
              · rintro w ⟨hSw, hSx⟩
                (try dsimp only at hSw)
                clear hSx
                go_simp
                first | done | with_reducible rfl
              (try simp only [Act.put, List.setIfInBounds_toArray, List.set_cons_zero, List.set_cons_succ])
              refine wpAnyU_take (i := 4) (v := ?_) false (by simp only [List.getElem?_toArray, List.getElem?_cons_succ, List.getElem?_cons_zero]; rfl) (by kernel_rfl) (by kernel_rfl) (by kernel_rfl) (fun _ _ _ h => h) (by kernel_rfl) (by decide) (Or.inl ⟨by rfl, ?_⟩) ⟨hS0, (fun _ => hS1)⟩ ?_
              rotate_left
              · rintro w ⟨hSw, hSx⟩
                (try dsimp only at hSw)
                clear hSx
                go_simp
                first | done | with_reducible rfl
              (try simp only [Act.put, List.setIfInBounds_toArray, List.set_cons_zero, List.set_cons_succ])
              refine wpAnyU_take (i := 5) (v := ?_) false (by simp only [List.getElem?_toArray, List.getElem?_cons_succ, List.getElem?_cons_zero]; rfl) (by kernel_rfl) (by kernel_rfl) (by kernel_rfl) (fun _ _ _ h => h) (by kernel_rfl) (by decide) (Or.inl ⟨by rfl, ?_⟩) ⟨hS0, (fun _ => hS1)⟩ ?_
              rotate_left
              · rintro w ⟨hSw, hSx⟩
                (try dsimp only at hSw)
                clear hSx
                go_simp
                first | done | with_reducible rfl
              (try simp only [Act.put, List.setIfInBounds_toArray, List.set_cons_zero, List.set_cons_succ])
              refine wpAnyU_take (i := 6) (v := ?_) false (by simp only [List.getElem?_toArray, List.getElem?_cons_succ, List.getElem?_cons_zero]; rfl) (by kernel_rfl) (by kernel_rfl) (by kernel_rfl) (fun _ _ _ h => h) (by kernel_rfl) (by decide) (Or.inl ⟨by rfl, ?_⟩) ⟨hS0, (fun _ => hS1)⟩ ?_
              rotate_left
              · rintro w ⟨hSw, hSx⟩
                (try dsimp only at hSw)
                clear hSx
                go_simp
                first | done | with_reducible rfl
              (try simp only [Act.put, List.setIfInBounds_toArray, List.set_cons_zero, List.set_cons_succ])
              refine wpAnyU_one (i := 7) (by kernel_rfl) (by simp only [List.getElem?_toArray, List.getElem?_cons_succ, List.getElem?_cons_zero]; rfl) ?_
              intro K hK
              go_simp
              clear hS0
              have hS0 := HAll.out _ (((Below.refl _ W1).drew).alloc (by simp) (.cells #[.int .i64 0, .int .i64 0, .slice none 0 0, .bool false] 35))
              refine hK.out _ _ ⟨hS0, (fun _ => hS1)⟩ ?_
              clear hK
              (try simp only [Act.put, List.setIfInBounds_toArray, List.set_cons_zero, List.set_cons_succ])
              refine wpAnyU_one (i := 8) (by kernel_rfl) (by simp only [List.getElem?_toArray, List.getElem?_cons_succ, List.getElem?_cons_zero]; rfl) ?_
              intro K hK
              go_simp
              clear hS0
              have hS0 := HAll.out _ (((Below.refl _ W1).drew).alloc (by simp) (.cells #[.int .i64 s.id, .int .i64 s.segs, .slice lo s.lens.length lc, .bool s.fin] 35))
              refine hK.out _ _ ⟨hS0, (fun _ => hS1)⟩ ?_
              clear hK
              (try simp only [Act.put, List.setIfInBounds_toArray, List.set_cons_zero, List.set_cons_succ])
              refine wpAnyU_done (by kernel_rfl) ?_ _
              refine NoPanic.normal ?_
              clear hS0 hS1
              obtain ⟨W2, hW2⟩ : ∃ W2, W2 = (W1.alloc (.cells #[.int .i64 s.id, .int .i64 s.segs, .slice lo s.lens.length lc, .bool s.fin] 35)).drew := ⟨_, rfl⟩
              have HB2 : Hid (Below W1.heap.size W1 W2) := Lib.hid (by rw [hW2]; exact ((Below.refl _ _).alloc (Nat.le_refl _) _).drew)
              have HK20 : Hid (W2.heap[W1.heap.size]? = some (.cells #[.int .i64 s.id, .int .i64 s.segs, .slice lo s.lens.length lc, .bool s.fin] 35)) := Lib.hid (by rw [hW2]; exact heap_alloc_new _ _)
              rw [← hW2]
              clear hW2
              have HBr2 : Hid (Below wr.heap.size wr W2) := Lib.hid (HB1.out.trans (HB2.out.mono HB1.out.size))
              have HCu := Lib.hid (cut_any (HS.out.below HBr2.out (Nat.le_refl _)) (by omega))
              have e1 : W2.cell? ⟨wr.heap.size, 1, none⟩ = some (.slice so xs.length sc) := (HB2.out.cell (p := ⟨wr.heap.size, 1, none⟩) (by show wr.heap.size < _; rw [← HSz1.out]; omega)).trans (World.news_of_block HK19.out 1 _ rfl)
              go_wp2_with fail
              refine HCu.out.mono ?_
              rintro e w4 ⟨vm, rfl, hown4, hb4⟩
              simp only [List.length_map] at hown4
              obtain ⟨vo, vc, hve, _, _⟩ := own_form hown4
              subst hve
              have hk4 := (hb4.block W1.heap.size (by have := HB2.out.size; have := (Array.getElem?_eq_some_iff.1 HK20.out).1; omega)).trans HK20.out
              have hk19 := (hb4.block wr.heap.size (by have := HBr2.out.size; have := HSz1.out; have := HB2.out.size; omega)).trans ((HB2.out.block wr.heap.size (by rw [← HSz1.out]; omega)).trans HK19.out)
              have hv2 : w4.cell? ⟨W1.heap.size, 2, none⟩ = some (.slice lo s.lens.length lc) := World.news_of_block hk4 2 _ rfl
              have hz2 : w4.frozen? ⟨W1.heap.size, 2, none⟩ = false := by simp [World.frozen?, hk4]
              have hk5 := heap_setCell_same w4 W1.heap.size 2 _ _ (.slice vo (cutI xs).length vc) hk4
              have HK5 := Lib.hid hk5
              have hk19' : (w4.setCell ⟨W1.heap.size, 2, none⟩ (.slice vo (cutI xs).length vc)).heap[wr.heap.size]? = some (.cells #[.int .i64 id, .slice so xs.length sc] 37) := (Below.heap_setCell w4 ⟨W1.heap.size, 2, none⟩ (.slice vo (cutI xs).length vc) wr.heap.size (by rw [← HSz1.out]; simp)).trans hk19
              have HB5 : Hid (Below wr.heap.size wr (w4.setCell ⟨W1.heap.size, 2, none⟩ (.slice vo (cutI xs).length vc))) := Lib.hid ((HBr2.out.trans (hb4.mono HBr2.out.size)).setCell (by rw [← HSz1.out]; simp) (.slice vo (cutI xs).length vc))
              have HO5 : Hid ((w4.setCell ⟨W1.heap.size, 2, none⟩ (.slice vo (cutI xs).length vc)).ownsRow wr.heap.size 39 1 (.slice vo (cutI xs).length vc) (cutI xs).length (u64s (cutI xs))) := Lib.hid (own_keep (hown4.weaken (HBr2.out.size)) (fun b hb => Below.heap_setCell w4 ⟨W1.heap.size, 2, none⟩ (.slice vo (cutI xs).length vc) b (fun e => by
                have h1 := (hown4.lt b hb).1
                have h2 := (Array.getElem?_eq_some_iff.1 HK20.out).1
                have h3 : b = W1.heap.size := e
                omega)))
              have HK19 := Lib.hid hk19'
              have hc5 := (HB5.out.cell (p := ⟨b0, 0, none⟩) hb0).trans HCC.out.fold.cell.1
              have HC5 := Lib.hid hc5
              clear hk4 hk19 hk5 hk19' hown4 hb4 hc5
              go_wp2_with fail
              obtain ⟨w5, hw5⟩ : ∃ w5, w5 = (w4.setCell ⟨W1.heap.size, 2, none⟩ (.slice vo (cutI xs).length vc)) := ⟨_, rfl⟩
              rw [← hw5] at HK5 HB5 HO5 HK19 HC5 ⊢
              clear hw5 hv2 hz2
              obtain ⟨w6, hrun6, hc6⟩ := HCC.out.next hok HK0.out HSh.out hid HSm.out hxl HUr.out HB5.out ((Below.refl _ w5).drew) (by omega) HO5.out
              have HC6 := Lib.hid hc6
              clear hc6
              have hcell5 : w5.drew.cell? ⟨b0, 0, none⟩ = some (.map (some bs)) ∧ w5.drew.cell? ⟨wr.heap.size, 0, none⟩ = some (.int .i64 id) ∧ w5.drew.cell? ⟨W1.heap.size, 0, none⟩ = some (.int .i64 s.id) ∧ w5.drew.cell? ⟨W1.heap.size, 1, none⟩ = some (.int .i64 s.segs) ∧ w5.drew.cell? ⟨W1.heap.size, 2, none⟩ = some (.slice vo (cutI xs).length vc) ∧ w5.drew.cell? ⟨W1.heap.size, 3, none⟩ = some (.bool s.fin) := ⟨HC5.out, World.news_of_block HK19.out 0 _ rfl, World.news_of_block HK5.out 0 _ rfl, World.news_of_block HK5.out 1 _ rfl, World.news_of_block HK5.out 2 _ rfl, World.news_of_block HK5.out 3 _ rfl⟩
              refine wp_region_noPanic ?_
              refine wp_region_U (fun w' => True) (fun w' => w'.cell? ⟨b0, 0, none⟩ = some (.map (some bs)) ∧ w'.cell? ⟨wr.heap.size, 0, none⟩ = some (.int .i64 id) ∧ w'.cell? ⟨W1.heap.size, 0, none⟩ = some (.int .i64 s.id) ∧ w'.cell? ⟨W1.heap.size, 1, none⟩ = some (.int .i64 s.segs) ∧ w'.cell? ⟨W1.heap.size, 2, none⟩ = some (.slice vo (cutI xs).length vc) ∧ w'.cell? ⟨W1.heap.size, 3, none⟩ = some (.bool s.fin)) 7 (by kernel_rfl) ?_
              have hS0 : True := trivial
              have hS1 := hcell5
              refine wpAnyU_take (i := 0) (v := ?_) false (by simp only [List.getElem?_toArray, List.getElem?_cons_zero]; rfl) (by kernel_rfl) (by kernel_rfl) (by kernel_rfl) (fun _ _ _ h => h) (by kernel_rfl) (by decide) (Or.inl ⟨by rfl, ?_⟩) ⟨hS0, (fun _ => hS1)⟩ ?_
              rotate_left
              · rintro w ⟨hSw, hSx⟩
                (try dsimp only at hSw)
                clear hSx
                go_simp
                first | done | with_reducible rfl
              (try simp only [Act.put, List.setIfInBounds_toArray, List.set_cons_zero, List.set_cons_succ])
              refine wpAnyU_take (i := 1) (v := ?_) false (by simp only [List.getElem?_toArray, List.getElem?_cons_succ, List.getElem?_cons_zero]; rfl) (by kernel_rfl) (by kernel_rfl) (by kernel_rfl) (fun _ _ _ h => h) (by kernel_rfl) (by decide) (Or.inl ⟨by rfl, ?_⟩) ⟨hS0, (fun _ => hS1)⟩ ?_
              rotate_left
              · rintro w ⟨hSw, hSx⟩
                (try dsimp only at hSw)
                clear hSx
                go_simp
                first | done | with_reducible rfl
              (try simp only [Act.put, List.setIfInBounds_toArray, List.set_cons_zero, List.set_cons_succ])
              refine wpAnyU_take (i := 2) (v := ?_) false (by simp only [List.getElem?_toArray, List.getElem?_cons_succ, List.getElem?_cons_zero]; rfl) (by kernel_rfl) (by kernel_rfl) (by kernel_rfl) (fun _ _ _ h => h) (by kernel_rfl) (by decide) (Or.inl ⟨by rfl, ?_⟩) ⟨hS0, (fun _ => hS1)⟩ ?_
              rotate_left
              · rintro w ⟨hSw, hSx⟩
                (try dsimp only at hSw)
                clear hSx
                go_simp
                first | done | with_reducible rfl
              (try simp only [Act.put, List.setIfInBounds_toArray, List.set_cons_zero, List.set_cons_succ])
              refine wpAnyU_take (i := 3) (v := ?_) true (by simp only [List.getElem?_toArray, List.getElem?_cons_succ, List.getElem?_cons_zero]; rfl) (by kernel_rfl) (by kernel_rfl) (by kernel_rfl) (fun _ _ _ h => h) (by kernel_rfl) (by decide) (Or.inl ⟨by rfl, ?_⟩) ⟨hS0, (fun _ => hS1)⟩ ?_
              rotate_left
              · rintro w ⟨hSw, hSx⟩
                (try dsimp only at hSw)
                have hSx := hSx rfl
                (try dsimp only at hSx)
                go_simp
                first | done | with_reducible rfl
              (try simp only [Act.put, List.setIfInBounds_toArray, List.set_cons_zero, List.set_cons_succ])
              refine wpAnyU_take (i := 4) (v := ?_) false (by simp only [List.getElem?_toArray, List.getElem?_cons_succ, List.getElem?_cons_zero]; rfl) (by kernel_rfl) (by kernel_rfl) (by kernel_rfl) (fun _ _ _ h => h) (by kernel_rfl) (by decide) (Or.inl ⟨by rfl, ?_⟩) ⟨hS0, (fun _ => hS1)⟩ ?_
              rotate_left
              · rintro w ⟨hSw, hSx⟩
                (try dsimp only at hSw)
                clear hSx
                go_simp
                first | done | with_reducible rfl
              (try simp only [Act.put, List.setIfInBounds_toArray, List.set_cons_zero, List.set_cons_succ])
              refine wpAnyU_take (i := 5) (v := ?_) true (by simp only [List.getElem?_toArray, List.getElem?_cons_succ, List.getElem?_cons_zero]; rfl) (by kernel_rfl) (by kernel_rfl) (by kernel_rfl) (fun _ _ _ h => h) (by kernel_rfl) (by decide) (Or.inl ⟨by rfl, ?_⟩) ⟨hS0, (fun _ => hS1)⟩ ?_
              rotate_left
              · rintro w ⟨hSw, hSx⟩
                (try dsimp only at hSw)
                have hSx := hSx rfl
                (try dsimp only at hSx)
                go_simp
                first | done | with_reducible rfl
              (try simp only [Act.put, List.setIfInBounds_toArray, List.set_cons_zero, List.set_cons_succ])
              refine wpAnyU_take (i := 6) (v := ?_) true (by simp only [List.getElem?_toArray, List.getElem?_cons_succ, List.getElem?_cons_zero]; rfl) (by kernel_rfl) (by kernel_rfl) (by kernel_rfl) (fun _ _ _ h => h) (by kernel_rfl) (by decide) (Or.inl ⟨by rfl, ?_⟩) ⟨hS0, (fun _ => hS1)⟩ ?_
              rotate_left
              · rintro w ⟨hSw, hSx⟩
                (try dsimp only at hSw)
                have hSx := hSx rfl
                (try dsimp only at hSx)
                go_simp
                first | done | with_reducible rfl
              (try simp only [Act.put, List.setIfInBounds_toArray, List.set_cons_zero, List.set_cons_succ])
              refine wpAnyU_one (i := 7) (by kernel_rfl) (by simp only [List.getElem?_toArray, List.getElem?_cons_succ, List.getElem?_cons_zero]; rfl) ?_
              intro K hK
              go_simp
              clear hS0
              have hS0 : True := trivial
              refine hK.out _ _ ⟨hS0, (fun h => absurd h (by decide))⟩ ?_
              clear hK
              (try simp only [Act.put, List.setIfInBounds_toArray, List.set_cons_zero, List.set_cons_succ])
              refine wpAnyU_done (by kernel_rfl) ?_ _
              refine NoPanic.normal ?_
              clear hS0 hS1
              go_wp2_with fail
              go_roundw
              case rel => exact ⟨j + 1, _, _, by omega, by go_num, HC6.out⟩
              case measure => simp [intOf]; omega
            · have hjr : j = rs.length := by omega
              subst hjr
              have HcF : Hid (({ midF F L L.length with sh := lenS F rs } : FS) = cutF F rs) := Lib.hid (by unfold midF cutF; rw [List.take_length, HLe.out])
              have HFin := HCC.out.fold
              rw [List.take_length, HcF.out] at HFin
              have HFin := Lib.hid HFin
              go_wp2_with fail
              go_ret
              exact ⟨by rw [HcE.out]; rfl, fun h => absurd HcE.out h, fun _ => ⟨D', lv', HFin.out, HCC.out.keep, HCC.out.sub, HCC.out.new⟩⟩
      · have e1 : sumE (F.n :: manyOf (rowsSp F rs)) = 37 := by unfold sumE; rw [if_neg hov]
        rw [e1] at HSum HcE
        clear e1 hov
        generalize sumV (F.n :: manyOf (rowsSp F rs)) = sv at HSum
        go_wp2_with fail
        refine HSum.out.mono ?_
        rintro e w' ⟨rfl, rfl⟩
        go_wp2_with fail
        go_ret
        exact CutPost.err HcE.out (by decide) HB.out
end Go.Proofs.Ytabanackdjlcmaa
