/-
  Package nums: a reader.
-/
import Derived.Test.YtgmdedkingampaaGreatNumP
import Derived.Test.YtgmdedkingampaaGreatClo
import Derived.Test.YtgmdedkingampaaGreatLibT
set_option linter.unusedVariables false
set_option linter.unusedSimpArgs false
namespace Go.Proofs.YtgmdedkingampaaGreat
open Go.ChangeShapes Go.WideShapes Go.ChangeAt Go.RowKit Go.Maps
set_option maxRecDepth 100000

theorem addr_add_add' (a : Addr) (k j : Nat) : (a.add k).add j = a.add (k + j) := by
  unfold Addr.add
  by_cases hk : k = 0 <;> by_cases hj : j = 0 <;> simp [hk, hj, Nat.add_assoc]
theorem SlR.drop' {w : World} {a : Addr} {n c : Nat} {cs : List Value} (h : SlR w (.slice (some a) n c) cs) (k : Nat) : SlR w (.slice (some (a.add k)) (n - k) (c - k)) (cs.drop k) := by
  have hc := h.cell
  obtain ⟨ao, c', hv, h1, h2, _⟩ := h
  cases hv
  have e : (cs.drop k).length = cs.length - k := by simp
  refine ⟨_, c - k, by rw [e], by rw [e]; omega, by omega, fun i u hi => ⟨_, rfl, ?_⟩⟩
  rw [addr_add_add']
  exact hc _ _ (by rwa [List.getElem?_drop] at hi)
/-- A reader at b0. -/
structure RdR (w : World) (D : Nat → Prop) (b0 : Nat) (v : Value) (r : RS) : Prop where
  blk : w.heap[b0]? = some (.cells #[v, .int .i64 r.e] 207 (0, 0))
  sl : SlR w v (u8s r.b)
  d0 : D b0
  dv : ∀ k, v.ownBlock = some k → D k ∧ k ≠ b0
  lt : ∀ k, D k → k < w.heap.size
  u8 : U8 r.b
  few : r.b.length ≤ 1000000000
theorem RdR.keep {S D : Nat → Prop} {w w' : World} {b0 : Nat} {v : Value} {r : RS} (h : RdR w D b0 v r) (hk : Keep S w w') (hS : ∀ k, S k → ¬ D k) : RdR w' D b0 v r :=
  ⟨(hk.block b0 (h.lt _ h.d0) (fun hs => hS _ hs h.d0)).trans h.blk, h.sl.keep hk (fun k hv hs => hS k hs (h.dv k hv).1), h.d0, h.dv, fun k hd => Nat.lt_of_lt_of_le (h.lt k hd) hk.size, h.u8, h.few⟩
theorem RdR.step {D : Nat → Prop} {w w' : World} {b0 : Nat} {v : Value} {r : RS} (h : RdR w D b0 v r) (hb : Below w.heap.size w w') : RdR w' D b0 v r := h.keep (Below.keep0 (fun _ => False) hb) (fun _ hk => hk.elim)
theorem RdR.cell {D : Nat → Prop} {w : World} {b0 : Nat} {v : Value} {r : RS} (h : RdR w D b0 v r) : w.cell? ⟨b0, 0, none⟩ = some v ∧ w.cell? ⟨b0, 1, none⟩ = some (.int .i64 r.e) ∧ w.frozen? ⟨b0, 0, none⟩ = false ∧ w.frozen? ⟨b0, 1, none⟩ = false := by
  have := h.blk
  simp [World.cell?, World.frozen?, this]
theorem RdR.setE {D : Nat → Prop} {w : World} {b0 : Nat} {v : Value} {r : RS} (h : RdR w D b0 v r) (x : Int) : RdR (w.setCell ⟨b0, 1, none⟩ (.int .i64 x)) D b0 v ⟨r.b, x⟩ ∧ Keep (fun k => k = b0) w (w.setCell ⟨b0, 1, none⟩ (.int .i64 x)) := by
  have hk : Keep (fun k => k = b0) w (w.setCell ⟨b0, 1, none⟩ (.int .i64 x)) := Keep.setCell (S := fun k => k = b0) (Keep.refl _ _) (p := ⟨b0, 1, none⟩) (Or.inl rfl) _
  exact ⟨⟨by simpa using heap_setCell_same w b0 1 _ _ (.int .i64 x) h.blk, h.sl.keep hk (fun k hv e => (h.dv k hv).2 e), h.d0, h.dv, fun k hd => Nat.lt_of_lt_of_le (h.lt k hd) hk.size, h.u8, h.few⟩, hk⟩
theorem RdR.setB {D : Nat → Prop} {w : World} {b0 : Nat} {v v' : Value} {r : RS} {zs : List Int} (h : RdR w D b0 v r) (hs : SlR w v' (u8s zs)) (hv : ∀ k, v'.ownBlock = some k → D k ∧ k ≠ b0) (h8 : U8 zs) (hl : zs.length ≤ 1000000000) :
    RdR (w.setCell ⟨b0, 0, none⟩ v') D b0 v' ⟨zs, r.e⟩ ∧ Keep (fun k => k = b0) w (w.setCell ⟨b0, 0, none⟩ v') := by
  have hk : Keep (fun k => k = b0) w (w.setCell ⟨b0, 0, none⟩ v') := Keep.setCell (S := fun k => k = b0) (Keep.refl _ _) (p := ⟨b0, 0, none⟩) (Or.inl rfl) _
  exact ⟨⟨by simpa using heap_setCell_same w b0 0 _ _ v' h.blk, hs.keep hk (fun k hv' e => (hv k hv').2 e), h.d0, hv, fun k hd => Nat.lt_of_lt_of_le (h.lt k hd) hk.size, h8, hl⟩, hk⟩
theorem fail_any {D : Nat → Prop} {w : World} {b0 : Nat} {v : Value} {r : RS} (h : RdR w D b0 v r) (x : Int) :
    Calls Tryz.prog 128 #[.pointer (some ⟨b0, 0, none⟩), .int .i64 x] w fun e w' => e = .returned (.tuple #[]) ∧ RdR w' D b0 v (rFail x r) ∧ Keep (fun k => k = b0) w w' := by
  obtain ⟨c0, c1, z0, z1⟩ := h.cell
  have H := Lib.hid h
  unfold rFail
  by_cases he : r.e = 0
  · rw [if_pos he]
    have hb : (r.e == 0) = true := by rw [beq_iff_eq]; exact he
    clear h he
    go_enter Tryz.func128, Tryz.ntmps128
    go_wp2
    go_end0
    exact ⟨rfl, H.out.setE x⟩
  · rw [if_neg he]
    have hb : (r.e == 0) = false := by rw [beq_eq_false_iff_ne]; exact he
    clear h he
    go_enter Tryz.func128, Tryz.ntmps128
    go_wp2
    go_end0
    exact ⟨rfl, H.out, Keep.refl _ _⟩
/-- What 'take' comes to. -/
def RetTk (D : Nat → Prop) (b0 : Nat) (r : RS) (n : Nat) (w : World) (e : Ending) (w' : World) : Prop :=
  ∃ v' ao c, e = .returned (.slice ao (rTake n r).2.length c) ∧ RdR w' D b0 v' (rTake n r).1 ∧ SlR w' (.slice ao (rTake n r).2.length c) (u8s (rTake n r).2) ∧ Keep (fun k => k = b0) w w'
set_option maxHeartbeats 1000000 in
theorem take_any {D : Nat → Prop} {w : World} {b0 : Nat} {v : Value} {r : RS} (h : RdR w D b0 v r) (n : Nat) (hn : n ≤ 1000000000) :
    Calls Tryz.prog 129 #[.pointer (some ⟨b0, 0, none⟩), .int .i64 n] w (RetTk D b0 r n w) := by
  obtain ⟨ao, c, rfl, hc1, hc2⟩ := h.sl.form
  have hlen : (u8s r.b).length = r.b.length := by simp
  rw [hlen] at h hc1
  clear hlen
  obtain ⟨c0, c1, z0, z1⟩ := h.cell
  have hfew := h.few
  have H := Lib.hid h
  by_cases he : r.e = 0
  · by_cases hnl : n ≤ r.b.length
    · have hT : rTake n r = (⟨r.b.drop n, 0⟩, r.b.take n) := by unfold rTake; rw [if_neg (by simp [he]), if_neg (by omega)]
      have HT := Lib.hid hT
      have hd1 : decide ((r.b.length : Int) < (n : Int)) = false := decide_eq_false (by omega)
      have hd2 : decide (r.b.length < n) = false := decide_eq_false (by omega)
      have hb : (r.e != 0) = false := by simp [he]
      have hnc : n ≤ c := by omega
      have HE := Lib.hid he
      clear h hT he
      have hlt : (r.b.take n).length = n := by simp; omega
      have HL := Lib.hid hlt
      have hsn : SlR w (.slice ao n n) (u8s (r.b.take n)) := by
        have := H.out.sl.take n (by simp; omega)
        rw [← List.map_take] at this
        exact this
      have HSn := Lib.hid hsn
      have fin : ∀ v', SlR w v' (u8s (r.b.drop n)) → (∀ k, v'.ownBlock = some k → D k ∧ k ≠ b0) → RetTk D b0 r n w (.returned (.slice ao n n)) (w.setCell ⟨b0, 0, none⟩ v') := by
        intro v' hv ho
        obtain ⟨g1, g2⟩ := H.out.setB hv ho (fun y hy => H.out.u8 y (List.mem_of_mem_drop hy)) (by simp; omega)
        refine ⟨v', ao, n, ?_, ?_, ?_, g2⟩
        · rw [HT.out, HL.out]
        · rw [HT.out]; rw [HE.out] at g1; exact g1
        · rw [HT.out, HL.out]
          exact HSn.out.keep g2 (fun k hk e => (H.out.dv k (by cases ao <;> exact hk)).2 e)
      have HFin := Lib.hid fin
      clear hlt hsn fin
      by_cases hce : c = n
      · subst hce
        have hl0 : r.b.length - c = 0 := by omega
        have hd0 : r.b.drop c = [] := List.drop_eq_nil_of_le (by omega)
        have HD0 := Lib.hid hd0
        have HL0 := Lib.hid hl0
        clear hd0 hl0
        go_enter Tryz.func129, Tryz.ntmps129
        go_wp2_with fail
        go_ret
        exact HFin.out _ (by rw [HD0.out]; exact ⟨ao, 0, rfl, Nat.le_refl _, Nat.zero_le _, by simp⟩) (fun k hk => H.out.dv k (by cases ao <;> exact hk))
      · have hdl : (r.b.drop n).length = r.b.length - n := by simp
        have HDl := Lib.hid hdl
        clear hdl
        go_enter Tryz.func129, Tryz.ntmps129
        go_wp2_with fail
        go_ret
        have hsl := H.out.sl
        have hdv := H.out.dv
        refine HFin.out _ ?_ ?_
        · cases ao with
          | none =>
            obtain ⟨h0, h1⟩ := hsl.none
            have h2 : r.b = [] := by simpa using h0
            rw [h2]
            have : ([] : List Int).length - n = 0 := by simp
            rw [this]
            exact ⟨none, c - n, by simp, by simp, by unfold maxLen; omega, by simp⟩
          | some a =>
            have := hsl.drop' n
            rw [← List.map_drop] at this
            exact this
        · intro k hk
          cases ao with
          | none => cases hk
          | some a => exact hdv k (by simpa [Value.ownBlock, block_add] using hk)
    · have hT : rTake n r = (⟨r.b, 10⟩, []) := by unfold rTake; rw [if_neg (by simp [he]), if_pos (by omega)]
      have hd1 : decide ((r.b.length : Int) < (n : Int)) = true := decide_eq_true (by omega)
      have hlt : r.b.length < n := by omega
      have hF : rFail 10 r = ⟨r.b, 10⟩ := by unfold rFail; rw [if_pos he]
      have HF := Lib.hid hF
      unfold RetTk
      rw [hT]
      clear h hT he hF
      go_enter Tryz.func129, Tryz.ntmps129
      go_wp2_with fail
      refine (fail_any H.out 10).mono ?_
      rintro e w1 ⟨rfl, h1, hk1⟩
      rw [HF.out] at h1
      obtain ⟨d0, d1, y0, y1⟩ := h1.cell
      have H1 := Lib.hid h1
      have HK1 := Lib.hid hk1
      clear h1 hk1 c0 c1 z0 z1
      go_wp2_with fail
      go_ret
      exact ⟨_, none, 0, rfl, H1.out, SlR.nil _, HK1.out⟩
  · have hT : rTake n r = (r, []) := rTake_err he
    have hb : (r.e != 0) = true := by simp [he]
    have hF : rFail 10 r = r := by unfold rFail; rw [if_neg he]
    have HF := Lib.hid hF
    unfold RetTk
    rw [hT]
    clear h hT he hF
    by_cases hnl : n ≤ r.b.length
    · have hd1 : decide ((r.b.length : Int) < (n : Int)) = false := decide_eq_false (by omega)
      have hd2 : decide (r.b.length < n) = false := decide_eq_false (by omega)
      go_enter Tryz.func129, Tryz.ntmps129
      go_wp2_with fail
      go_ret
      exact ⟨_, none, 0, rfl, H.out, SlR.nil _, Keep.refl _ _⟩
    · have hd1 : decide ((r.b.length : Int) < (n : Int)) = true := decide_eq_true (by omega)
      have hlt : r.b.length < n := by omega
      go_enter Tryz.func129, Tryz.ntmps129
      go_wp2_with fail
      refine (fail_any H.out 10).mono ?_
      rintro e w1 ⟨rfl, h1, hk1⟩
      rw [HF.out] at h1
      obtain ⟨d0, d1, y0, y1⟩ := h1.cell
      have H1 := Lib.hid h1
      have HK1 := Lib.hid hk1
      clear h1 hk1 c0 c1 z0 z1
      go_wp2_with fail
      go_ret
      exact ⟨_, none, 0, rfl, H1.out, SlR.nil _, HK1.out⟩

theorem rTake_one (r : RS) : (rTake 1 r).2 = [] ∨ ∃ h, (rTake 1 r).2 = [h] := by
  have := rTake_few (n := 1) (r := r)
  generalize (rTake 1 r).2 = l at *
  match l, this with
  | [], _ => exact Or.inl rfl
  | [h], _ => exact Or.inr ⟨h, rfl⟩
  | _ :: _ :: _, h => simp at h
theorem or_u8 {x y : Int} (h0 : 0 ≤ x) (h1 : x < 72057594037927936) (y0 : 0 ≤ y) (y1 : y ≤ 255) : bits BinOp.or IntKind.u64 (x * 256) y = x * 256 + y :=
  bits_join .u64 64 (by decide) (fun n h0 h1 => IntWalk.u64_in n (by constructor <;> omega)) 8 _ _ (by omega) (by show x * 256 % 256 = 0; omega) (by show x * 256 < 18446744073709551616; omega) y0 (by show y < 256; omega) (by show y < 18446744073709551616; omega)
/-- What 'Uint' comes to. -/
def RetU (D : Nat → Prop) (b0 : Nat) (q : RS × Int) (w : World) (e : Ending) (w' : World) : Prop := e = .returned (.int .u64 q.2) ∧ ∃ v', RdR w' D b0 v' q.1 ∧ Keep (fun k => k = b0) w w'
set_option maxHeartbeats 2000000 in
theorem ruint_any {D : Nat → Prop} {w : World} {b0 : Nat} {v : Value} {r : RS} (h : RdR w D b0 v r) :
    Calls Tryz.prog 104 #[.pointer (some ⟨b0, 0, none⟩)] w (RetU D b0 (rU r) w) := by
  have HT := Lib.hid (take_any h 1 (by decide))
  have hb8 := rTake_b (n := 1) h.u8 h.few
  have hone := rTake_one r
  unfold rU
  obtain ⟨r1, hr1⟩ : ∃ r1, r1 = (rTake 1 r).1 := ⟨_, rfl⟩
  obtain ⟨l1, hl1⟩ : ∃ l1, l1 = (rTake 1 r).2 := ⟨_, rfl⟩
  unfold RetTk at HT
  rw [← hr1, ← hl1] at hb8 HT ⊢
  rw [← hl1] at hone
  clear h hr1 hl1
  go_enter Tryz.func104, Tryz.ntmps104
  go_wp2_with fail
  refine HT.out.mono ?_
  rintro e w1 ⟨v1, ao, c, rfl, h1, hs1, hk1⟩
  have H1 := Lib.hid h1
  have HK1 := Lib.hid hk1
  clear h1 hk1 HT
  rcases hone with rfl | ⟨h, rfl⟩
  · clear hs1 hb8
    go_wp2_with fail
    go_ret
    exact ⟨rfl, v1, H1.out, HK1.out⟩
  · have hs1c := hs1
    obtain ⟨_, _, he, _, _, hx⟩ := hs1
    cases he
    obtain ⟨a, rfl, hc0⟩ := hx 0 (.int .u8 h) rfl
    obtain ⟨hh0, hh1⟩ := hb8.2.2.1 h (by simp)
    have hc0 : w1.cell? a = some (.int .u8 h) := by simpa [Addr.add] using hc0
    clear hx hs1c
    by_cases h8 : 8 < h
    · have hF : rUA [h] r1 = (rFail 11 r1, 0) := by simp [rUA, h8]
      have HF := Lib.hid hF
      clear hF
      go_wp2_with fail
      refine (fail_any H1.out 11).mono ?_
      rintro e w2 ⟨rfl, h2, hk2⟩
      go_wp2_with fail
      go_ret
      rw [HF.out]
      exact ⟨rfl, v1, h2, HK1.out.trans hk2⟩
    · have hF : rUA [h] r1 = rUB (rTake h.toNat r1).2 (rTake h.toNat r1).1 := by simp [rUA, h8]
      have HF := Lib.hid hF
      have hd8 : decide (8 < h) = false := decide_eq_false h8
      have hh8 : h ≤ 8 := by omega
      obtain ⟨n, rfl⟩ := Int.eq_ofNat_of_zero_le hh0
      clear hF h8
      go_wp2_with fail
      refine (take_any H1.out n (by omega)).mono ?_
      rintro e w2 ⟨v2, bo, bc, rfl, h2, hs2, hk2⟩
      have hb2 := rTake_b (n := n) hb8.1 hb8.2.1
      have hfe := rTake_few (n := n) (r := r1)
      rw [Int.toNat_natCast] at HF
      generalize (rTake n r1).2 = d at *
      generalize (rTake n r1).1 = r2 at *
      have H2 := Lib.hid h2
      have HK2 := Lib.hid (HK1.out.trans hk2)
      obtain ⟨_, _, he, hl1, hl2, hx⟩ := hs2
      simp only [List.length_map] at he hl1
      cases he
      have HX := Lib.hid hx
      have HU8 := Lib.hid hb2.2.2.1
      have hdl8 : d.length ≤ 8 := by omega
      unfold maxLen at hl2
      clear h2 hk2 hx hb2 hfe HK1 H1 hc0 hb8
      go_wp2_with fail
      go_loop [27, 4] (fun i x => ∃ k : Nat, k ≤ d.length ∧ i = .int .i64 k ∧ x = .int .u64 (val (d.take k)) ∧ (0 < k → ∃ c l, d = c :: l ∧ c ≠ 0)) (fun i _ => d.length - (intOf i).toNat)
      case atStart => exact ⟨0, by omega, rfl, rfl, fun h => by omega⟩
      case round =>
        obtain ⟨k, hk, rfl, rfl, hne⟩ := hrel
        have HNe := Lib.hid hne
        clear hne
        by_cases hlt : k < d.length
        · have hki : (k : Int) < (d.length : Int) := by omega
          obtain ⟨y, hy⟩ : ∃ y, d[k]? = some y := ⟨_, List.getElem?_eq_getElem hlt⟩
          obtain ⟨hy0, hy1⟩ := HU8.out y (List.mem_of_getElem? hy)
          obtain ⟨ba, rfl, hcy⟩ := HX.out k (.int .u8 y) (by rw [List.getElem?_map, hy]; rfl)
          have HY := Lib.hid hy
          clear hy
          have hts : d.take (k + 1) = d.take k ++ [y] := by
            obtain ⟨q1, q2⟩ := List.getElem?_eq_some_iff.1 HY.out
            rw [List.take_succ_eq_append_getElem q1, q2]
          have hvs : val (d.take (k + 1)) = val (d.take k) * 256 + y := by rw [hts, val_snoc]
          have hvb := val_bd (l := d.take k) (fun z hz => HU8.out z (List.mem_of_mem_take hz))
          have hv0 := hvb.1
          have hv1 : val (d.take k) < 72057594037927936 := by
            have h1 := hvb.2
            have h2 : (d.take k).length ≤ 7 := by rw [List.length_take]; omega
            have h3 := pow_le7 h2
            omega
          have hor := or_u8 hv0 hv1 hy0 hy1
          have HOr := Lib.hid hor
          have HVs := Lib.hid hvs
          clear hts hvs hvb hor
          generalize val (d.take k) = vk at *
          by_cases hk0 : k = 0
          · subst hk0
            have hcy : w2.cell? ba = some (.int .u8 y) := by simpa [Addr.add] using hcy
            by_cases hy0' : y = 0
            · have hkb : (y == 0) = true := by rw [beq_iff_eq]; exact hy0'
              have hR : rUB d r2 = (rFail 11 r2, 0) := by
                cases d with
                | nil => simp at hlt
                | cons z l => have hz := HY.out; simp at hz; subst hz; simp [rUB, hy0']
              have HR := Lib.hid hR
              clear hy0' hR
              go_wp2_with fail
              refine (fail_any H2.out 11).mono ?_
              rintro e w3 ⟨rfl, h3, hk3⟩
              go_wp2_with fail
              go_ret
              rw [HF.out, HR.out]
              exact ⟨rfl, v2, h3, HK2.out.trans hk3⟩
            · have hkb : (y == 0) = false := by rw [beq_eq_false_iff_ne]; exact hy0'
              have hN : ∃ c l, d = c :: l ∧ c ≠ 0 := by
                cases d with
                | nil => simp at hlt
                | cons z l => have hz := HY.out; simp at hz; subst hz; exact ⟨z, l, rfl, hy0'⟩
              have HN := Lib.hid hN
              clear hy0' hN
              go_wp2_with fail
              go_round
              case rel => exact ⟨1, by omega, by go_num, by rw [HVs.out, ← HOr.out], fun _ => HN.out⟩
              case measure => simp [intOf]; omega
          · have hkb : ((k : Int) == 0) = false := by rw [beq_eq_false_iff_ne]; omega
            have HN := Lib.hid (HNe.out (by omega))
            go_wp2_with fail
            go_round
            case rel => exact ⟨k + 1, by omega, by go_num, by rw [HVs.out, ← HOr.out], fun _ => HN.out⟩
            case measure => simp [intOf]; omega
        · have hkl : k = d.length := by omega
          have hT : d.take k = d := by rw [hkl, List.take_length]
          have hR : rUB d r2 = (r2, val d) := by
            cases d with
            | nil => rfl
            | cons z l =>
              obtain ⟨c, l', e, hc⟩ := HNe.out (by rw [hkl]; simp)
              cases e
              simp [rUB, hc]
          have HR := Lib.hid hR
          have hdk : decide ((k : Int) < (d.length : Int)) = false := decide_eq_false (by omega)
          have HT := Lib.hid hT
          clear hkl hT hR
          go_wp2_with fail
          go_ret
          rw [HF.out, HR.out, HT.out]
          exact ⟨rfl, v2, H2.out, HK2.out⟩
end Go.Proofs.YtgmdedkingampaaGreat
