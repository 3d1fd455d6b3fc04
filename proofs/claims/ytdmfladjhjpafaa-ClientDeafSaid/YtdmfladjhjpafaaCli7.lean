/-
  Package client: New, where its arguments may be.
-/
import Derived.Test.YtdmfladjhjpafaaCli6
import Derived.Test.YtdmfladjhjpafaaLibT
import Derived.Deep.RegionLaw
namespace Go.Proofs.Ytdmfladjhjpafaa
open Go.ChangeShapes Go.WideShapes Go.ChangeAt Go.RowKit Go.Maps
set_option maxRecDepth 100000

theorem Try.rowInfo : (Try.prog.info? 29).map (fun i => (i.zero, i.size, i.bytes)) = some (some (.slice none 0 0), 1, 24) := by kernel_rfl
/-- One that is made: the shards' rows so far. -/
structure CliN (w : World) (D : Nat → Prop) (b0 bm : Nat) (id : Int) (orders : List Int) (sv : Value) (vs : List Value) (L : List (List Int)) : Prop where
  cells : ∃ ov, w.heap[b0]? = some (.cells #[.int .u64 id, .int .u64 0, sv, ov, .map (some bm)] 57 (0, 0)) ∧ SlR w ov (i64s orders) ∧ ∀ k, ov.ownBlock = some k → D k ∧ ¬ CR b0 bm k ∧ sv.ownBlock ≠ some k
  own : w.ownsRow 0 29 1 sv L.length vs
  vals : ValsK w .i64 vs L
  so : ∀ k, sv.ownBlock = some k → D k ∧ ¬ CR b0 bm k
  vo : ∀ u ∈ vs, ∀ k, u.ownBlock = some k → D k ∧ ¬ CR b0 bm k ∧ sv.ownBlock ≠ some k
  lt : ∀ k, D k → k < w.heap.size
  dr : ∀ k, CR b0 bm k → D k
  ne : bm ≠ b0
  map : MapR w Try.prog 28 bm 0 (fun _ => none)
theorem CliN.cell {D : Nat → Prop} {w : World} {b0 bm : Nat} {id : Int} {orders : List Int} {sv : Value} {vs : List Value} {L : List (List Int)} (h : CliN w D b0 bm id orders sv vs L) : w.cell? ⟨b0, 2, none⟩ = some sv ∧ w.frozen? ⟨b0, 2, none⟩ = false := by
  obtain ⟨ov, h1, _⟩ := h.cells
  exact ⟨by simp [World.cell?, h1], by simp [World.frozen?, h1]⟩
theorem CliN.below {D : Nat → Prop} {w w' : World} {b0 bm : Nat} {id : Int} {orders : List Int} {sv : Value} {vs : List Value} {L : List (List Int)} (h : CliN w D b0 bm id orders sv vs L) (hb : Below w.heap.size w w') : CliN w' D b0 bm id orders sv vs L := by
  obtain ⟨ov, h1, h2, h3⟩ := h.cells
  have hk : Keep (fun _ => False) w w' := Below.keep0 _ hb
  exact ⟨⟨ov, (hb.block b0 (h.lt b0 (h.dr _ (Or.inl rfl)))).trans h1, h2.below hb (Nat.le_refl _), h3⟩, own_keepS hk h.own (fun _ _ h => h), h.vals.below hb (Nat.le_refl _), h.so, h.vo, fun k hd => Nat.lt_of_lt_of_le (h.lt k hd) hb.size, h.dr, h.ne, h.map.keep hk (fun h => h)⟩
theorem CliN.app1 {D : Nat → Prop} {w wx w2 : World} {b0 bm g n cap : Nat} {id : Int} {orders r : List Int} {sv cv : Value} {vs : List Value} {L : List (List Int)} (h : CliN w D b0 bm id orders sv vs L) (hx : Below w.heap.size w wx)
    (hc : wx.ownsRow w.heap.size 3 1 cv r.length (i64s r)) (hn : n = L.length + 1) (hown : w2.ownsRow 0 29 1 (.slice (some ⟨g, 0, none⟩) n cap) n (vs ++ [cv])) (hb : Below 0 wx w2)
    (hg : sv.ownBlock = some g ∨ wx.heap.size ≤ g) (hk : ∀ k, k < wx.heap.size → some k ≠ sv.ownBlock → w2.heap[k]? = wx.heap[k]?) :
    w2.cell? ⟨b0, 2, none⟩ = some sv ∧ w2.frozen? ⟨b0, 2, none⟩ = false ∧ CliN (w2.setCell ⟨b0, 2, none⟩ (.slice (some ⟨g, 0, none⟩) n cap)) (fun k => D k ∨ k = g ∨ cv.ownBlock = some k) b0 bm id orders (.slice (some ⟨g, 0, none⟩) n cap) (vs ++ [cv]) (L ++ [r]) ∧
    Moved D (fun k => D k ∨ k = g ∨ cv.ownBlock = some k) w (w2.setCell ⟨b0, 2, none⟩ (.slice (some ⟨g, 0, none⟩) n cap)) := by
  obtain ⟨ov, h1, h2, h3⟩ := h.cells
  have hb0 := h.lt b0 (h.dr _ (Or.inl rfl))
  have hbm := h.lt bm (h.dr _ (Or.inr rfl))
  have hz := hx.size
  have hsb : sv.ownBlock ≠ some b0 := fun e => (h.so b0 e).2 (Or.inl rfl)
  have hsm : sv.ownBlock ≠ some bm := fun e => (h.so bm e).2 (Or.inr rfl)
  have kx : Keep (fun k => sv.ownBlock = some k) w wx := Below.keep0 _ hx
  have ka : Keep (fun k => sv.ownBlock = some k) wx w2 := keep_app hb hk
  have k1 := kx.trans ka
  have e0 : w2.heap[b0]? = some (.cells #[.int .u64 id, .int .u64 0, sv, ov, .map (some bm)] 57 (0, 0)) := (k1.block b0 hb0 hsb).trans h1
  have hgb : g ≠ b0 := fun e => by rcases hg with e' | e'; exact hsb (e ▸ e'); omega
  have hgm : g ≠ bm := fun e => by rcases hg with e' | e'; exact hsm (e ▸ e'); omega
  have ks : Keep (fun k => k = b0) w2 (w2.setCell ⟨b0, 2, none⟩ (.slice (some ⟨g, 0, none⟩) n cap)) := (Keep.refl (fun k => k = b0) w2).setCell (p := ⟨b0, 2, none⟩) (Or.inl rfl) _
  have kd : Keep D w (w2.setCell ⟨b0, 2, none⟩ (.slice (some ⟨g, 0, none⟩) n cap)) := (k1.mono (fun k _ e => (h.so k e).1)).trans (ks.mono (fun k _ e => by subst e; exact h.dr _ (Or.inl rfl)))
  have hcv : ∀ k, cv.ownBlock = some k → w.heap.size ≤ k ∧ k < wx.heap.size := fun k hk => hc.lt k hk
  have hDlt : ∀ k, D k → k < w.heap.size := h.lt
  have hgc : ∀ k, cv.ownBlock = some k → g ≠ k := fun k hk e => by
    have := hcv k hk
    rcases hg with e' | e'
    · have := hDlt g (h.so g e').1; omega
    · omega
  have hDg : ∀ k, D k → sv.ownBlock ≠ some k → g ≠ k := fun k hd hs e => by
    rcases hg with e' | e'
    · exact hs (e ▸ e')
    · have := hDlt k hd; omega
  refine ⟨by simp [World.cell?, e0], by simp [World.frozen?, e0], ⟨⟨ov, by simpa using heap_setCell_same w2 b0 2 _ _ (.slice (some ⟨g, 0, none⟩) n cap) e0, ?_, fun k hk' => ?_⟩, ?_, ?_, fun k hk' => ?_, fun u hu k hk' => ?_, fun k hk' => ?_, fun k hk' => Or.inl (h.dr k hk'), h.ne, ?_⟩, ⟨kd, fun k hd => Or.inl hd, fun k hd => ?_⟩⟩
  · exact (h2.keep k1 (fun k hk' hs => (h3 k hk').2.2 hs)).keep ks (fun k hk' hs => (h3 k hk').2.1 (Or.inl hs))
  · refine ⟨Or.inl (h3 k hk').1, (h3 k hk').2.1, fun e => ?_⟩
    exact hDg k (h3 k hk').1 (h3 k hk').2.2 (by simpa [Value.ownBlock] using e)
  · have ho := own_keepS ks hown (fun k hk' hs => by subst hs; exact hgb (by simpa [Value.ownBlock] using hk'))
    rw [List.length_append]; simp only [List.length_cons, List.length_nil, Nat.zero_add]
    rw [← hn]; exact ho
  · refine ValsK.snoc ((h.vals.keep k1 (fun u hu k hk' hs => (h.vo u hu k hk').2.2 hs)).keep ks (fun u hu k hk' hs => (h.vo u hu k hk').2.1 (Or.inl hs))) ?_
    refine ((SlR.of_own hc).keep ka (fun k hk' hs => ?_)).keep ks (fun k hk' hs => ?_)
    · have := hcv k hk'; have := hDlt k (h.so k hs).1; omega
    · have := hcv k hk'; omega
  · have e : k = g := by simpa [Value.ownBlock, eq_comm] using hk'
    subst e
    exact ⟨Or.inr (Or.inl rfl), fun hr => by rcases hr with e | e; exact hgb e; exact hgm e⟩
  · rcases List.mem_append.1 hu with hu | hu
    · have := h.vo u hu k hk'
      exact ⟨Or.inl this.1, this.2.1, fun e => hDg k this.1 this.2.2 (by simpa [Value.ownBlock] using e)⟩
    · have e : u = cv := by simpa using hu
      subst e
      have := hcv k hk'
      refine ⟨Or.inr (Or.inr hk'), fun hr => by rcases hr with e | e <;> omega, fun e => hgc k hk' (by simpa [Value.ownBlock] using e)⟩
  · have hs2 := k1.size
    rcases hk' with hd | rfl | hd
    · exact Nat.lt_of_lt_of_le (hDlt k hd) kd.size
    · exact Nat.lt_of_lt_of_le (hown.lt k (by simp [Value.ownBlock])).2 ks.size
    · exact Nat.lt_of_lt_of_le (hcv k hd).2 (Nat.le_trans ka.size ks.size)
  · exact (h.map.keep k1 hsm).keep ks h.ne
  · rcases hd with hd | rfl | hd
    · exact Or.inl hd
    · rcases hg with e | e
      · exact Or.inl (h.so k e).1
      · exact Or.inr (by omega)
    · exact Or.inr (hcv k hd).1
theorem CliN.made {w w1 : World} {id : Int} {orders : List Int} {ov : Value} (hb : Below w.heap.size w w1) (ho : w1.ownsRow w.heap.size 3 1 ov orders.length (i64s orders)) :
    CliN ((w1.alloc (.map #[] 0)).alloc (.cells #[.int .u64 id, .int .u64 0, .slice none 0 0, ov, .map (some w1.heap.size)] 57)) (fun k => w.heap.size ≤ k ∧ k < w1.heap.size + 2) (w1.heap.size + 1) w1.heap.size id orders (.slice none 0 0) [] [] := by
  have hz := hb.size
  have hz1 : (w1.alloc (.map #[] 0)).heap.size = w1.heap.size + 1 := by simp
  have e0 := heap_alloc_new (w1.alloc (.map #[] 0)) (.cells #[.int .u64 id, .int .u64 0, .slice none 0 0, ov, .map (some w1.heap.size)] 57)
  rw [hz1] at e0
  refine ⟨⟨ov, e0, SlR.of_own ((ho.alloc _).alloc _), fun k hk => ?_⟩, World.ownsRow_nil _ _ _ _, ValsK.nil _ _, (fun k hk => by cases hk), (fun u hu => by cases hu), (fun k hk => by simp; omega), fun k hk => ?_, by omega, ?_⟩
  · have := ho.lt k hk
    exact ⟨by omega, fun hr => by rcases hr with e | e <;> omega, by simp [Value.ownBlock]⟩
  · rcases hk with e | e <;> omega
  · exact (MapR.made w1 _ _).same (Below.heap_alloc _ _ _ (by simp))
theorem CliN.done {D : Nat → Prop} {w : World} {b0 bm : Nat} {id : Int} {orders : List Int} {sv : Value} {vs : List Value} {L : List (List Int)} (h : CliN w D b0 bm id orders sv vs L) (hi : U1 id) (ho : 1 ≤ orders.length ∧ orders.length ≤ 7) : CliR w D b0 bm 0 ⟨id, 0, L, orders, fun _ => none⟩ := by
  obtain ⟨ov, h1, h2, h3⟩ := h.cells
  exact ⟨⟨sv, ov, h1, ⟨vs, SlR.of_own h.own, h.vals, h.so, fun u hu k hk => ⟨(h.vo u hu k hk).1, (h.vo u hu k hk).2.1⟩⟩, h2, fun k hk => ⟨(h3 k hk).1, (h3 k hk).2.1⟩⟩, h.lt, h.dr, h.ne, ⟨⟨_, h.map, fun a ha => rfl, (fun kl hk => by cases hk)⟩, (fun a x m e => by cases e)⟩, ⟨hi, by show (0 : Int) ≤ 0; omega, by show (0 : Int) ≤ 1000000; omega⟩, ho⟩
/-- A client that is new. -/
def RetCn (A : CS) (w : World) (e : Ending) (w' : World) : Prop := ∃ b0 bm D, e = .returned (.tuple #[.pointer (some ⟨b0, 0, none⟩), .int .i64 0]) ∧ CliR w' D b0 bm 0 A ∧ (∀ k, D k → w.heap.size ≤ k) ∧ Below w.heap.size w w'
set_option maxHeartbeats 2000000 in
theorem cnew_ok {w : World} {id : Int} {sv ov : Value} {shards : List (List Int)} {orders : List Int} (hi : U1 id) (hi0 : id ≠ 0) (hs : RowsK w .i64 sv shards) (hsl : 1 ≤ shards.length ∧ shards.length ≤ 8) (ho : SlR w ov (i64s orders)) (hno : nodesB orders 7 = true) (hns : shards.any badS = false) :
    Calls Try.prog 7 #[.int .u64 id, sv, ov] w (RetCn ⟨id, 0, shards, orders, fun _ => none⟩ w) := by
  obtain ⟨i0, hi2, hz0, hz1, hz2⟩ := info_parts Try.rowInfo
  have hol : 1 ≤ orders.length ∧ orders.length ≤ 7 := by
    unfold nodesB at hno
    simp only [Bool.and_eq_true, decide_eq_true_eq] at hno
    omega
  have hrl : ∀ r ∈ shards, r.length ≤ 4 := fun r hr => by
    have h1 := List.any_eq_false.1 hns r hr
    unfold badS nodesB at h1
    simp only [Bool.not_eq_true, Bool.not_eq_false', Bool.and_eq_true, decide_eq_true_eq] at h1
    omega
  have HN := Lib.hid (cnodes_any ho 7)
  have HS := Lib.hid (ccontainsS_any hs)
  rw [hno] at HN
  rw [hns] at HS
  have HC := Lib.hid (cloneI_any ho (by omega))
  have HRl := Lib.hid hrl
  have HI := Lib.hid hi
  have HOl := Lib.hid hol
  have hid0 : (id == 0) = false := by rw [beq_eq_false_iff_ne]; exact hi0
  have HRs := Lib.hid hs
  obtain ⟨ao, c, rfl, hc1, hc2, hx⟩ := hs.row
  have HX := Lib.hid hx
  obtain ⟨oo, oc, rfl, ho1, ho2⟩ := ho.form
  simp only [List.length_map] at *
  obtain ⟨hl1, hl2⟩ := hsl
  have hl1i : (1 : Int) ≤ (shards.length : Int) := by omega
  have hl2i : (shards.length : Int) ≤ 8 := by omega
  have hmk := @run_makeMap Try.prog
  clear hs ho hno hns hrl hi hol hi0 hx
  go_enter Try.func7, Try.ntmps7
  go_wp2_with fail
  refine HN.out.mono ?_
  rintro e w1 ⟨rfl, rfl⟩
  go_wp2_with fail
  refine HS.out.mono ?_
  rintro e w1 ⟨rfl, rfl⟩
  go_wp2_with fail
  refine HC.out.mono ?_
  rintro e w1 ⟨cv, rfl, hown, hb⟩
  obtain ⟨co, cc, rfl, _, _⟩ := own_form hown
  have HM := Lib.hid (CliN.made (id := id) hb hown)
  have HB := Lib.hid hb
  clear hown hb
  go_wp2_with fail
  go_loopw [40, 10] (fun i _ wr => ∃ (k : Nat) (D : Nat → Prop) (sv : Value) (vs : List Value), k ≤ shards.length ∧ i = .int .i64 k ∧ CliN wr D (w1.heap.size + 1) w1.heap.size id orders sv vs (shards.take k) ∧ (∀ q, D q → w.heap.size ≤ q) ∧ Below w.heap.size w wr) (fun i _ _ => shards.length - (intOf i).toNat)
  case atStart => exact ⟨0, _, _, _, by omega, rfl, HM.out, fun q hq => hq.1, (HB.out.alloc HB.out.size _).alloc (by have := HB.out.size; simp; omega) _⟩
  case round =>
    clear HM HB
    obtain ⟨k, D, sv, vs, hk, rfl, hM, hD, hB⟩ := hrel
    have HM := Lib.hid hM
    have HD := Lib.hid hD
    have HB := Lib.hid hB
    obtain ⟨c2, z2⟩ := hM.cell
    clear hM hD hB
    by_cases hlt : k < shards.length
    · have hki : (k : Int) < (shards.length : Int) := by omega
      obtain ⟨ao', c', he, _, _, hx⟩ := (RowsK.below HB.out (Nat.le_refl _) HRs.out).row
      cases he
      obtain ⟨a, u, rfl, hcell, hsl⟩ := hx k hlt
      have htk : shards.take (k + 1) = shards.take k ++ [shards[k]] := List.take_succ_eq_append_getElem hlt
      have HTk := Lib.hid htk
      have hr4 := HRl.out _ (List.getElem_mem hlt)
      generalize shards[k] = r at *
      obtain ⟨uo, uc, rfl, _, _⟩ := hsl.form
      simp only [List.length_map] at hsl ⊢
      have HC3 := fun wx (hb : Below wr.heap.size wr wx) => Lib.hid (cloneI_any (hsl.below hb (Nat.le_refl _)) (by omega))
      have HC3 := Lib.hid HC3
      have h1l : (shards.take k).length ≤ 1099511627776 := by rw [List.length_take]; omega
      clear hx hsl htk
      go_wp2_with fail
      go_region_law (first
        | ((refine step_appS rfl (.tmp 48) (.tmp 51) 30 rfl 0 29 i0 (.slice none 0 0) 1 24 Try.underlying30 hi2 hz0 hz1 hz2 rfl (by decide) (by decide) rfl rfl (heap_alloc_new _ _) rfl (HM3.out.own.alloc _) (by intro u hu; simp at hu; subst hu; rfl) h1l (Nat.zero_le _) ?_)
           intro g5 cap5 w5 hown5 hb5 hg5 hk5
           have HA5 := Lib.hid (HM.out.app1 (HB3.out.alloc HB3.out.size _) (HO3.out.alloc _) rfl hown5 hb5 hg5 hk5)
           obtain ⟨c2, z2, _⟩ := HA5.out
           clear hown5 hb5 hg5 hk5)
        | (go_simp; go_at_call 15; (with_reducible refine (HC3.out _ (Below.refl _ _).drew).out.mono ?_)
           rintro e w3 ⟨cv, rfl, hown3, hb3⟩
           obtain ⟨vo, vc, rfl, _, _⟩ := own_form hown3
           have HO3 := Lib.hid hown3
           have HB3 := Lib.hid ((Below.refl wr.heap.size wr).drew.trans hb3)
           have HM3 := Lib.hid (HM.out.below HB3.out)
           obtain ⟨d2, y2⟩ := HM3.out.cell
           have d3 := fun o => cell_alloc (w := w3) o d2
           clear hown3 hb3))
      all_goals
        have HM5 := Lib.hid HA5.out.2.2
        clear HA5
        go_wp2_with fail
        go_roundw
        case rel =>
          have hM5 := HM5.out
          rw [show (List.take k shards).length = k by rw [List.length_take]; omega] at hM5
          have hbd := hM5.2.below HD.out HB.out.size
          exact ⟨k + 1, _, _, _, by omega, by go_num, by rw [HTk.out]; exact hM5.1, hbd.2, HB.out.trans hbd.1⟩
        case measure => simp [intOf]; omega
    · have hkl : k = shards.length := by omega
      subst hkl
      have hkd : decide ((shards.length : Int) < (shards.length : Int)) = false := decide_eq_false (by omega)
      rw [List.take_length] at HM
      clear hlt hk
      go_wp2_with fail
      go_ret2
      exact ⟨_, _, D, rfl, HM.out.done HI.out HOl.out, HD.out, HB.out⟩
end Go.Proofs.Ytdmfladjhjpafaa
