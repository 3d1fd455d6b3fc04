/-
  Contracts of package gather: Least, Row.
-/
import Derived.Test.YtabanackdjlcmaaGat
namespace Go.Proofs.Ytabanackdjlcmaa
open Go.ChangeShapes Go.WideShapes Go.ChangeAt Go.RowKit Go.Maps

theorem Try.rowInfo : (Try.prog.info? 27).map (fun i => (i.zero, i.size, i.bytes)) = some (some (.slice none 0 0), 1, 24) := by kernel_rfl

/-- What all replicas of a shard have. -/
def leastL (m : Rep) (s : Int) (many : Nat) : List (List Int) := (List.range many).map fun i => (m s (i : Nat)).getD []
def leastB (m : Rep) (s : Int) (many : Nat) : Bool := (List.range many).all fun i => (m s (i : Nat)).isSome
def leastM (m : Rep) (s : Int) (many : Nat) : List Int := if leastB m s many = true then minI (leastL m s many) else []
theorem leastB_true {m : Rep} {s : Int} {many : Nat} (h : ∀ i : Nat, i < many → m s i ≠ none) : leastB m s many = true := by
  unfold leastB
  rw [List.all_eq_true]
  intro i hi
  have := h i (by simpa using hi)
  cases hm : m s i with
  | none => exact absurd hm this
  | some x => rfl
theorem leastB_false {m : Rep} {s : Int} {many i : Nat} (hi : i < many) (h : m s i = none) : leastB m s many = false := by
  unfold leastB
  rw [List.all_eq_false]
  exact ⟨i, by simpa using hi, by rw [h]; simp⟩
theorem leastM_len {m : Rep} {s : Int} {many : Nat} (h : ∀ a b xs, m a b = some xs → xs.length ≤ 4) : (leastM m s many).length ≤ 4 := by
  unfold leastM
  split
  · apply minI_len
    intro r hr
    obtain ⟨i, _, rfl⟩ := List.mem_map.1 hr
    cases hm : m s (i : Nat) with
    | none => simp
    | some x => exact h _ _ _ hm
  · simp

set_option maxRecDepth 100000
set_option maxHeartbeats 800000 in
theorem least_any {w : World} {D : Nat → Prop} {b0 bm n : Nat} {m : Rep} {s : Int} {many : Nat} (h : GatR w D b0 bm n m) (hs : Small s) (h1 : 1 ≤ many) (h4 : many ≤ 4) :
    Calls Try.prog 16 #[.pointer (some ⟨b0, 0, none⟩), .int .i64 s, .int .i64 many] w fun e w' => ∃ v, e = .returned (.tuple #[v, .bool (leastB m s many)]) ∧ SlR w' v (u64s (leastM m s many)) ∧ Below w.heap.size w w' ∧
      (∀ k, v.ownBlock = some k → w.heap.size ≤ k ∧ k < w'.heap.size) := by
  have H := Lib.hid h
  have hb0 := h.lt _ h.d0
  have hbm := h.lt _ h.dm
  have c0 := h.cell0
  obtain ⟨f, hf, hvals⟩ := h.vals
  have Hf := Lib.hid hf
  have Hvals := Lib.hid hvals
  have Hs := Lib.hid hs
  obtain ⟨i0, hi, hz0, hz1, hz2⟩ := info_parts Try.rowInfo
  clear h hf hvals hs
  go_enter Try.func16, Try.ntmps16
  go_wp2_with fail
  go_loopw [23, 8] (fun i o wr => ∃ k : Nat, k ≤ many ∧ i = .int .i64 k ∧ wr.ownsRow w.heap.size 27 1 o k ((List.range k).map fun i => lookG (f (gk s (i : Nat)))) ∧ (∀ i : Nat, i < k → m s i ≠ none) ∧ Below w.heap.size w wr) (fun i _ _ => many - (intOf i).toNat)
  case atStart => exact ⟨0, by omega, rfl, by simpa using World.ownsRow_nil _ _ _ _, by intro i hi; omega, Below.refl _ _⟩
  case round =>
    obtain ⟨k, hk, rfl, hown, hne, hbl⟩ := hrel
    have HO := Lib.hid hown
    have HB := Lib.hid hbl
    have HN := Lib.hid hne
    obtain ⟨ao', c', rfl, hc1, hc2⟩ := own_slice hown
    unfold maxLen at hc2
    by_cases hlt : k < many
    · have hcell : wr.cell? ⟨b0, 0, none⟩ = some (.map (some bm)) := (hbl.cell (p := ⟨b0, 0, none⟩) hb0).trans c0
      have hl := glook_two (Hf.out.same (hbl.block bm hbm)) Hs.out (⟨by omega, by omega⟩ : Small (k : Int))
      have hval := (Hvals.out s k Hs.out ⟨by omega, by omega⟩)
      have hlk := hval.look
      cases hm : m s k with
      | none =>
        rw [hm] at hlk
        have hx : (f (gk s k)).isSome = false := hlk.2
        rw [hx] at hl
        have hB := leastB_false hlt hm
        have hM : leastM m s many = [] := by unfold leastM; rw [hB]; rfl
        have HB1 := Lib.hid hB
        have HM1 := Lib.hid hM
        clear hlk hval hx hB hM hown hbl hne hm
        generalize lookG (f (gk s k)) = lv at *
        go_wp2_with fail
        go_ret2
        exact ⟨_, by rw [HB1.out]; rfl, by rw [HM1.out]; exact SlR.nil _, HB.out, by intro k hk; cases hk⟩
      | some ys =>
        rw [hm] at hlk
        have hx : (f (gk s k)).isSome = true := hlk.2
        rw [hx] at hl
        obtain ⟨lo, lc, hle, hlc1, hlc2⟩ := hlk.1.form
        have HM := Lib.hid hm
        have HE := Lib.hid hle
        obtain ⟨ln, hln⟩ : ∃ ln, ln = (u64s ((some ys).getD [])).length := ⟨_, rfl⟩
        rw [← hln] at hle hlc1 HE
        rw [hle] at hl
        clear hlk hval hx hown hbl hne hm hle hln
        have hrn : ((List.range k).map fun i => lookG (f (gk s (i : Nat)))).length = k := by simp
        obtain ⟨vs, hvs⟩ : ∃ vs, vs = (List.range k).map fun i => lookG (f (gk s (i : Nat))) := ⟨_, rfl⟩
        rw [← hvs] at HO
        have HVs := Lib.hid hvs
        clear hvs hrn
        go_wp2_with (at_builtin; refine wpList_app1 rfl (.tmp 39) (.tmp 41) 22 rfl w.heap.size 27 i0 (.slice none 0 0) 24 Try.underlying22 hi hz0 hz1 hz2 rfl (by decide) rfl rfl HO.out rfl (by omega) HB.out.size ?_)
        intro g cap w' hown hb' _ _
        have HO2 := Lib.hid hown
        have HB2 := Lib.hid hb'
        clear hown hb'
        go_wp2
        go_roundw
        case rel =>
          refine ⟨k + 1, by omega, by go_num, ?_, fun i hi => ?_, HB.out.trans HB2.out⟩
          · rw [List.range_succ, List.map_append, ← HVs.out, List.map_cons, HE.out]; exact HO2.out
          · by_cases e : i = k
            · subst e; rw [HM.out]; simp
            · exact HN.out i (by omega)
        case measure => simp [intOf]; omega
    · have hkm : k = many := by omega
      subst hkm
      have hB := leastB_true HN.out
      have hM : leastM m s k = minI (leastL m s k) := by unfold leastM; rw [hB]; rfl
      have HB1 := Lib.hid hB
      have HM1 := Lib.hid hM
      have hrows : RowsR wr (.slice ao' k c') (leastL m s k) := by
        have hsl := SlR.of_own hown
        obtain ⟨ao2, c2, hv2, _, hm2, hx2⟩ := hsl
        rw [show ((List.range k).map fun i => lookG (f (gk s (i : Nat)))).length = k by simp] at hv2
        cases hv2
        refine ⟨ao', c', by simp [leastL], by simpa [leastL] using hc1, by unfold maxLen; omega, fun i r hr => ?_⟩
        simp only [leastL, List.getElem?_map] at hr
        have hik : i < k := by
          rcases Nat.lt_or_ge i k with h | h
          · exact h
          · rw [List.getElem?_eq_none (by simpa using h)] at hr; cases hr
        rw [List.getElem?_eq_getElem (by simpa using hik)] at hr
        simp at hr
        subst hr
        obtain ⟨a, ha, hc⟩ := hx2 i (lookG (f (gk s i))) (by simp [hik])
        refine ⟨a, _, ha, hc, ?_⟩
        exact ((Hvals.out s i Hs.out ⟨by omega, by omega⟩).look.1).below hbl (Nat.le_refl _)
      have HR := Lib.hid hrows
      have hlen : ∀ r ∈ leastL m s k, r.length ≤ 1048576 := by
        intro r hr
        obtain ⟨i, _, rfl⟩ := List.mem_map.1 hr
        cases hm : m s (i : Nat) with
        | none => simp
        | some x => have := H.out.small _ _ _ hm; simp; omega
      have HL := Lib.hid hlen
      clear hown hbl hne hrows hlen hB hM
      go_wp2_with (go_at_call 37; refine (min_any HR.out HL.out).mono ?_; rintro e w' ⟨v', rfl, hown, hb⟩)
      go_ret2
      exact ⟨v', by rw [HB1.out]; rfl, by rw [HM1.out]; exact SlR.of_own hown, HB.out.trans (hb.mono HB.out.size), fun j hj => by have := hown.lt j hj; have := HB.out.size; omega⟩

theorem SlR.takeC {w : World} {ao : Option Addr} {n c : Nat} {cs : List Value} (h : SlR w (.slice ao n c) cs) (k : Nat) (hk : k ≤ cs.length) : SlR w (.slice ao k c) (cs.take k) := by
  obtain ⟨ao', c', hv, h1, h2, h3⟩ := h
  cases hv
  have e : (cs.take k).length = k := by simp; omega
  refine ⟨ao, c, by rw [e], by omega, by omega, fun i u hi => h3 i u ?_⟩
  rw [List.getElem?_take] at hi
  split at hi
  · exact hi
  · cases hi
theorem set_two {w : World} {b : Nat} {x y : Value} {ty : TypeId} (h : w.heap[b]? = some (.cells #[x, y] ty)) (u v : Value) :
    (w.setCell ⟨b, 0, none⟩ u).cell? ⟨b, 0, none⟩ = some u ∧ ((w.setCell ⟨b, 0, none⟩ u).setCell ⟨b, 1, none⟩ v).cell? ⟨b, 1, none⟩ = some v := by
  have h1 := heap_setCell_same w b 0 _ _ u h
  have h2 := heap_setCell_same _ b 1 _ _ v h1
  exact ⟨by simp [World.cell?, h1], by simp [World.cell?, h2]⟩
/-- A shard's row that may be cut. -/
def rowL (m : Rep) (id : Int) (segs : Nat) (lens : List Int) : List Int := maxI [lens, (leastM m id segs).take segs]
theorem take_min (xs : List Int) (n : Nat) : xs.length ≤ n → xs.take n = xs := List.take_of_length_le
set_option maxHeartbeats 1600000 in
theorem row_any {w : World} {D : Nat → Prop} {b0 bm n : Nat} {m : Rep} {id : Int} {segs : Nat} {lens : List Int} {v fin : Value} (h : GatR w D b0 bm n m) (hs : Small id) (h1 : 1 ≤ segs) (h4 : segs ≤ 4) (hv : SlR w v (u64s lens)) (ll : lens.length ≤ 1048576) :
    Calls Try.prog 18 #[.pointer (some ⟨b0, 0, none⟩), .agg #[.int .i64 id, .int .i64 segs, v, fin]] w fun e w' => ∃ v', e = .returned (.agg #[.int .i64 id, v']) ∧ SlR w' v' (u64s (rowL m id segs lens)) ∧ Below w.heap.size w w' ∧
      (∀ k, v'.ownBlock = some k → w.heap.size ≤ k ∧ k < w'.heap.size) := by
  have H := Lib.hid h
  have HV := Lib.hid hv
  have Hs := Lib.hid hs
  obtain ⟨ao, c, hve, hlc, hmc⟩ := hv.form
  simp only [List.length_map] at hve hlc
  subst hve
  clear h hv hs
  go_enter Try.func18, Try.ntmps18
  have hA : Below w.heap.size w ((w.alloc (.cells #[.int .i64 id, .int .i64 segs, .slice ao lens.length c, fin] 35)).alloc (.cells #[.int .i64 0, .slice none 0 0] 37)) := ((Below.refl _ _).alloc (Nat.le_refl _) _).alloc (by simp) _
  obtain ⟨wA, hwA⟩ : ∃ wA, wA = ((w.alloc (.cells #[.int .i64 id, .int .i64 segs, .slice ao lens.length c, fin] 35)).alloc (.cells #[.int .i64 0, .slice none 0 0] 37)) := ⟨_, rfl⟩
  have hsA : wA.heap.size = w.heap.size + 2 := by rw [hwA]; simp
  have hk0 : wA.heap[w.heap.size]? = some (.cells #[.int .i64 id, .int .i64 segs, .slice ao lens.length c, fin] 35) := by
    rw [hwA, Below.heap_alloc _ _ _ (by simp)]; exact heap_alloc_new w _
  have hk1 : wA.heap[w.heap.size + 1]? = some (.cells #[.int .i64 0, .slice none 0 0] 37) := by
    rw [hwA]
    have := heap_alloc_new (w.alloc (.cells #[.int .i64 id, .int .i64 segs, .slice ao lens.length c, fin] 35)) (.cells #[.int .i64 0, .slice none 0 0] 37)
    simpa using this
  rw [← hwA] at hA
  have HA := Lib.hid hA
  have Hk0 := Lib.hid hk0
  have Hk1 := Lib.hid hk1
  have HG := Lib.hid (H.out.below hA (Nat.le_refl _))
  have HwA := Lib.hid hwA
  clear hA hk0 hk1 hwA
  go_wp2_with fail
  rw [← HwA.out]
  refine (least_any HG.out Hs.out h1 h4).mono ?_
  rintro e w3 ⟨lv, rfl, hlv, hb3, _⟩
  have hlen := leastM_len (s := id) (many := segs) H.out.small
  have HLM := Lib.hid hlv
  obtain ⟨lo, lc, hle, hlc1, hlc2⟩ := hlv.form
  simp only [List.length_map] at hle hlc1
  subst hle
  have hc0 : w3.heap[w.heap.size]? = some (.cells #[.int .i64 id, .int .i64 segs, .slice ao lens.length c, fin] 35) := (hb3.block _ (by omega)).trans Hk0.out
  have hc1 : w3.heap[w.heap.size + 1]? = some (.cells #[.int .i64 0, .slice none 0 0] 37) := (hb3.block _ (by omega)).trans Hk1.out
  have hB3 := Lib.hid (HA.out.trans (hb3.mono (by omega)))
  have hs3 := hb3.size
  have x0 : w3.cell? ⟨w.heap.size, 0, none⟩ = some (.int .i64 id) := by simp [World.cell?, hc0]
  have x1 : w3.cell? ⟨w.heap.size, 1, none⟩ = some (.int .i64 segs) := by simp [World.cell?, hc0]
  have x2 : w3.cell? ⟨w.heap.size, 2, none⟩ = some (.slice ao lens.length c) := by simp [World.cell?, hc0]
  have y0 : w3.cell? ⟨w.heap.size + 1, 0, none⟩ = some (.int .i64 0) := by simp [World.cell?, hc1]
  have y1 : w3.cell? ⟨w.heap.size + 1, 1, none⟩ = some (.slice none 0 0) := by simp [World.cell?, hc1]
  have z0 : w3.frozen? ⟨w.heap.size + 1, 0, none⟩ = false := by simp [World.frozen?, hc1]
  have z1 : w3.frozen? ⟨w.heap.size + 1, 1, none⟩ = false := by simp [World.frozen?, hc1]
  have hRow : rowL m id segs lens = maxI [lens, (leastM m id segs).take segs] := rfl
  generalize leastM m id segs = lm at *
  have Hc1 := Lib.hid hc1
  clear hc0 hc1 hb3 hlv HwA
  obtain ⟨tk, htk⟩ : ∃ tk, tk = lm.take segs := ⟨_, rfl⟩
  have htl : tk.length ≤ 4 := by rw [htk, List.length_take]; omega
  rw [← htk] at hRow
  have HRow := Lib.hid hRow
  clear hRow
  have HV3 := HV.out.below hB3.out (Nat.le_refl _)
  have HV3 := Lib.hid HV3
  by_cases hgt : segs < lm.length
  · have hsl : SlR w3 (.slice lo segs lc) (u64s tk) := by
      have := HLM.out.takeC segs (by simp; omega)
      rw [htk, u64s, List.map_take]; exact this
    have hrows := rowsR_two (t := 27) (fr := (0, 0)) HV3.out hsl
    have HRows := Lib.hid (hrows.below (Below.refl _ _).drew (Nat.le_refl _))
    have hlen2 : ∀ r ∈ [lens, tk], r.length ≤ 1048576 := by
      intro r hr; simp at hr; rcases hr with rfl | rfl <;> omega
    have HL2 := Lib.hid hlen2
    have hstep : ∀ wm : World, Below (w3.alloc (.cells #[.slice ao lens.length c, .slice lo segs lc] 27)).drew.heap.size (w3.alloc (.cells #[.slice ao lens.length c, .slice lo segs lc] 27)).drew wm →
        Below w3.heap.size w3 wm ∧ (wm.cell? ⟨w.heap.size, 0, none⟩ = some (.int .i64 id) ∧ wm.cell? ⟨w.heap.size, 2, none⟩ = some (.slice ao lens.length c)) ∧ wm.cell? ⟨w.heap.size + 1, 0, none⟩ = some (.int .i64 0) ∧ wm.cell? ⟨w.heap.size + 1, 1, none⟩ = some (.slice none 0 0) ∧
        wm.frozen? ⟨w.heap.size + 1, 0, none⟩ = false ∧ wm.frozen? ⟨w.heap.size + 1, 1, none⟩ = false ∧ wm.heap[w.heap.size + 1]? = some (.cells #[.int .i64 0, .slice none 0 0] 37) := by
      intro wm hbx
      have hbk : Below w3.heap.size w3 wm := (((Below.refl w3.heap.size _).alloc (Nat.le_refl _) _).drew.trans (hbx.mono (by simp [World.drew])))
      have e1 : wm.heap[w.heap.size + 1]? = some (.cells #[.int .i64 0, .slice none 0 0] 37) := (hbk.block _ (by omega)).trans Hc1.out
      exact ⟨hbk, ⟨(hbk.cell (p := ⟨w.heap.size, 0, none⟩) (by show w.heap.size < _; omega)).trans x0, (hbk.cell (p := ⟨w.heap.size, 2, none⟩) (by show w.heap.size < _; omega)).trans x2⟩, by simp [World.cell?, e1], by simp [World.cell?, e1], by simp [World.frozen?, e1], by simp [World.frozen?, e1], e1⟩
    have HStep := Lib.hid hstep
    have hcS : w3.drew.cell? ⟨w.heap.size, 0, none⟩ = some (.int .i64 id) ∧ w3.drew.cell? ⟨w.heap.size, 2, none⟩ = some (.slice ao lens.length c) := ⟨x0, x2⟩
    clear hrows hlen2 htk hsl hstep
    go_wp2_with fail
    go_region_held3 (fun w' => w'.cell? ⟨w.heap.size, 0, none⟩ = some (.int .i64 id) ∧ w'.cell? ⟨w.heap.size, 2, none⟩ = some (.slice ao lens.length c)) (first | go_keep | exact hcS | exact hcB)
      (first
        | (go_at_call 36
           refine (max_any HRows.out HL2.out).mono ?_
           rintro e wm ⟨vm, rfl, hown, hbx⟩
           obtain ⟨hb2, hcB, yy0, yy1, zz0, zz1, hblk⟩ := HStep.out wm hbx
           have hblk := Lib.hid hblk
           obtain ⟨vo, vc, hve, hvc1, hvc2⟩ := (SlR.of_own hown).form
           subst hve
           have hown := Lib.hid hown
           have hb2 := Lib.hid hb2
           have hbx := Lib.hid hbx))
    go_wp2
    obtain ⟨s0, s1⟩ := set_two hblk.out (.int .i64 id) (.slice vo (maxI [lens, tk]).length vc)
    (try simp only [Exit.inBlock, Exit.then])
    refine bodyPost_ret (v := .agg #[.int .i64 id, .slice vo (maxI [lens, tk]).length vc]) (by simp [results, Try.results18, go_sem, s0, s1]) rfl ?_
    have hsz := hbx.out.size
    simp [World.drew] at hsz
    refine ⟨_, rfl, ?_, ?_, fun k hk => ?_⟩
    · rw [HRow.out]
      have h1 := (SlR.of_own hown.out)
      simp only [List.length_map] at h1
      exact h1.keep (S := fun k => k = w.heap.size + 1) (((Keep.refl (fun k => k = w.heap.size + 1) wm).setCell (p := ⟨w.heap.size + 1, 0, none⟩) (Or.inl rfl) _).setCell (p := ⟨w.heap.size + 1, 1, none⟩) (Or.inl rfl) _) (fun k hk hs => by
        have := (hown.out.lt k (by simpa using hk)).1
        simp [World.drew] at this
        omega)
    · exact ((hB3.out.trans (hb2.out.mono (by omega))).setCell (p := ⟨w.heap.size + 1, 0, none⟩) (Nat.le_succ _) _).setCell (p := ⟨w.heap.size + 1, 1, none⟩) (Nat.le_succ _) _
    · have := hown.out.lt k (by simpa using hk)
      simp [World.drew] at this
      simp [World.setCell]
      omega
  · have hsl : SlR w3 (.slice lo lm.length lc) (u64s tk) := by
      rw [htk, take_min _ _ (by omega)]; exact HLM.out
    have hrows := rowsR_two (t := 27) (fr := (0, 0)) HV3.out hsl
    have HRows := Lib.hid (hrows.below (Below.refl _ _).drew (Nat.le_refl _))
    have hlen2 : ∀ r ∈ [lens, tk], r.length ≤ 1048576 := by
      intro r hr; simp at hr; rcases hr with rfl | rfl <;> omega
    have HL2 := Lib.hid hlen2
    have hstep : ∀ wm : World, Below (w3.alloc (.cells #[.slice ao lens.length c, .slice lo lm.length lc] 27)).drew.heap.size (w3.alloc (.cells #[.slice ao lens.length c, .slice lo lm.length lc] 27)).drew wm →
        Below w3.heap.size w3 wm ∧ (wm.cell? ⟨w.heap.size, 0, none⟩ = some (.int .i64 id) ∧ wm.cell? ⟨w.heap.size, 2, none⟩ = some (.slice ao lens.length c)) ∧ wm.cell? ⟨w.heap.size + 1, 0, none⟩ = some (.int .i64 0) ∧ wm.cell? ⟨w.heap.size + 1, 1, none⟩ = some (.slice none 0 0) ∧
        wm.frozen? ⟨w.heap.size + 1, 0, none⟩ = false ∧ wm.frozen? ⟨w.heap.size + 1, 1, none⟩ = false ∧ wm.heap[w.heap.size + 1]? = some (.cells #[.int .i64 0, .slice none 0 0] 37) := by
      intro wm hbx
      have hbk : Below w3.heap.size w3 wm := (((Below.refl w3.heap.size _).alloc (Nat.le_refl _) _).drew.trans (hbx.mono (by simp [World.drew])))
      have e1 : wm.heap[w.heap.size + 1]? = some (.cells #[.int .i64 0, .slice none 0 0] 37) := (hbk.block _ (by omega)).trans Hc1.out
      exact ⟨hbk, ⟨(hbk.cell (p := ⟨w.heap.size, 0, none⟩) (by show w.heap.size < _; omega)).trans x0, (hbk.cell (p := ⟨w.heap.size, 2, none⟩) (by show w.heap.size < _; omega)).trans x2⟩, by simp [World.cell?, e1], by simp [World.cell?, e1], by simp [World.frozen?, e1], by simp [World.frozen?, e1], e1⟩
    have HStep := Lib.hid hstep
    have hcS : w3.drew.cell? ⟨w.heap.size, 0, none⟩ = some (.int .i64 id) ∧ w3.drew.cell? ⟨w.heap.size, 2, none⟩ = some (.slice ao lens.length c) := ⟨x0, x2⟩
    clear hrows hlen2 htk hsl hstep
    go_wp2_with fail
    go_region_held3 (fun w' => w'.cell? ⟨w.heap.size, 0, none⟩ = some (.int .i64 id) ∧ w'.cell? ⟨w.heap.size, 2, none⟩ = some (.slice ao lens.length c)) (first | go_keep | exact hcS | exact hcB)
      (first
        | (go_at_call 36
           refine (max_any HRows.out HL2.out).mono ?_
           rintro e wm ⟨vm, rfl, hown, hbx⟩
           obtain ⟨hb2, hcB, yy0, yy1, zz0, zz1, hblk⟩ := HStep.out wm hbx
           have hblk := Lib.hid hblk
           obtain ⟨vo, vc, hve, hvc1, hvc2⟩ := (SlR.of_own hown).form
           subst hve
           have hown := Lib.hid hown
           have hb2 := Lib.hid hb2
           have hbx := Lib.hid hbx))
    go_wp2
    obtain ⟨s0, s1⟩ := set_two hblk.out (.int .i64 id) (.slice vo (maxI [lens, tk]).length vc)
    (try simp only [Exit.inBlock, Exit.then])
    refine bodyPost_ret (v := .agg #[.int .i64 id, .slice vo (maxI [lens, tk]).length vc]) (by simp [results, Try.results18, go_sem, s0, s1]) rfl ?_
    have hsz := hbx.out.size
    simp [World.drew] at hsz
    refine ⟨_, rfl, ?_, ?_, fun k hk => ?_⟩
    · rw [HRow.out]
      have h1 := (SlR.of_own hown.out)
      simp only [List.length_map] at h1
      exact h1.keep (S := fun k => k = w.heap.size + 1) (((Keep.refl (fun k => k = w.heap.size + 1) wm).setCell (p := ⟨w.heap.size + 1, 0, none⟩) (Or.inl rfl) _).setCell (p := ⟨w.heap.size + 1, 1, none⟩) (Or.inl rfl) _) (fun k hk hs => by
        have := (hown.out.lt k (by simpa using hk)).1
        simp [World.drew] at this
        omega)
    · exact ((hB3.out.trans (hb2.out.mono (by omega))).setCell (p := ⟨w.heap.size + 1, 0, none⟩) (Nat.le_succ _) _).setCell (p := ⟨w.heap.size + 1, 1, none⟩) (Nat.le_succ _) _
    · have := hown.out.lt k (by simpa using hk)
      simp [World.drew] at this
      simp [World.setCell]
      omega
end Go.Proofs.Ytabanackdjlcmaa
