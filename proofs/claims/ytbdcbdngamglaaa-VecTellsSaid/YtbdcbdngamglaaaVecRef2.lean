/-
  Contracts of the document's answers for package vec, the rest.
-/
import Derived.Test.YtbdcbdngamglaaaVecRef
namespace Go.Proofs.Ytbdcbdngamglaaa
open Go.RowKit

theorem app_u64 {w : World} {ops : Array Oper} {rest : List Oper} {o : Oper} {a : Act} {Q : Exit → Act → World → Prop} (hgd : o.guard = none) (s x : Operand)
    (ho : o.op = .call { callee := .builtin .append, args := #[s, x], argTypes := #[22, 22] })
    {base : Nat} {v : Value} {n : Nat} {xs : List Value} {u : Int} {c : Nat} {e' : TypeId} (hs : a.eval s = v) (hx : a.eval x = .slice (some ⟨w.heap.size, 0, none⟩) 1 c) (hown : w.ownsRow base 24 1 v n xs)
    (hlen : n ≤ 1099511627776) (hbase : base ≤ w.heap.size)
    (h : ∀ g cap w', w'.ownsRow base 24 1 (.slice (some ⟨g, 0, none⟩) (n + 1) cap) (n + 1) (xs ++ [.int .u64 u]) → Below base w w' → (v.ownBlock = some g ∨ w.heap.size ≤ g) → (∀ k, k < w.heap.size → some k ≠ v.ownBlock → w'.heap[k]? = w.heap[k]?) →
      wpList Try.prog ops Q rest (a.put o.dst (.slice (some ⟨g, 0, none⟩) (n + 1) cap)) w') : wpList Try.prog ops Q (o :: rest) a (w.alloc (.cells #[.int .u64 u] e')) := by
  obtain ⟨i0, hi, hz0, hz1, hz2⟩ := info_parts Try.vecInfo
  exact wpList_app1 hgd s x 22 ho base 24 i0 (.int .u64 0) 8 Try.underlying22 hi hz0 hz1 hz2 rfl (by omega) hs hx hown rfl hlen hbase h

theorem step_app_u64 {w : World} {ops : Array Oper} {o : Oper} {a : Act} {K : Act → World → Prop} {Q : Exit → Act → World → Prop} {E : Prop} (hgd : o.guard = none) (s x : Operand)
    (ho : o.op = .call { callee := .builtin .append, args := #[s, x], argTypes := #[22, 22] })
    {base : Nat} {v : Value} {n : Nat} {xs : List Value} {u : Int} {c : Nat} {e' : TypeId} {B : Nat} {fr : Nat × Nat} (hs : a.eval s = v) (hx : a.eval x = .slice (some ⟨B, 0, none⟩) 1 c) (hB : w.heap[B]? = some (.cells #[.int .u64 u] e' fr)) (hown : w.ownsRow base 24 1 v n xs)
    (hlen : n ≤ 1099511627776) (hbase : base ≤ w.heap.size)
    (h : ∀ g cap w', w'.ownsRow base 24 1 (.slice (some ⟨g, 0, none⟩) (n + 1) cap) (n + 1) (xs ++ [.int .u64 u]) → Below base w w' → (v.ownBlock = some g ∨ w.heap.size ≤ g) → (∀ k, k < w.heap.size → some k ≠ v.ownBlock → w'.heap[k]? = w.heap[k]?) →
      K (a.put o.dst (.slice (some ⟨g, 0, none⟩) (n + 1) cap)) w') : if Region.wanted o (yielded ops a.tmps) = true then Oper.wp Try.prog o a w K Q else E := by
  obtain ⟨i0, hi, hz0, hz1, hz2⟩ := info_parts Try.vecInfo
  exact step_app1w hgd s x 22 ho base 24 i0 (.int .u64 0) 8 Try.underlying22 hi hz0 hz1 hz2 rfl (by omega) hs hx hB hown rfl hlen hbase h

theorem app_u64N {w : World} {ops : Array Oper} {rest : List Oper} {o : Oper} {a : Act} {Q : Exit → Act → World → Prop} (hgd : o.guard = none) (s x : Operand)
    (ho : o.op = .call { callee := .builtin .append, args := #[s, x], argTypes := #[22, 22] })
    {base : Nat} {v : Value} {n m : Nat} {xs : List Value} {us : Array Value} {c : Nat} {e' : TypeId} (hs : a.eval s = v) (hx : a.eval x = .slice (some ⟨w.heap.size, 0, none⟩) m c) (hm : us.toList.length = m) (hm0 : 0 < m) (hown : w.ownsRow base 24 1 v n xs) (hu : ∀ u ∈ us.toList, u.oneCell' = true)
    (hlen : n + m ≤ 1099511627776) (hbase : base ≤ w.heap.size)
    (h : ∀ g cap w', w'.ownsRow base 24 1 (.slice (some ⟨g, 0, none⟩) (n + m) cap) (n + m) (xs ++ us.toList) → Below base w w' → (v.ownBlock = some g ∨ w.heap.size ≤ g) → (∀ k, k < w.heap.size → some k ≠ v.ownBlock → w'.heap[k]? = w.heap[k]?) →
      wpList Try.prog ops Q rest (a.put o.dst (.slice (some ⟨g, 0, none⟩) (n + m) cap)) w') : wpList Try.prog ops Q (o :: rest) a (w.alloc (.cells us e')) := by
  obtain ⟨i0, hi, hz0, hz1, hz2⟩ := info_parts Try.vecInfo
  exact wpList_appN hgd s x 22 ho base 24 i0 (.int .u64 0) 8 Try.underlying22 hi hz0 hz1 hz2 rfl (by omega) hs hx hm hm0 hown hu hlen hbase h

set_option maxHeartbeats 400000 in
theorem rcut_any {v : Value} {xs : List Int} {w : World} (h : SlR w v (u64s xs)) (hl : xs.length ≤ 1048576) :
    Calls Try.prog 22 #[v] w (RetOwn w 24 (u64s (cutI xs))) := by
  obtain ⟨ao, c, rfl, hc, hm, hx⟩ := h.intsAt
  go_enter Try.func22, Try.ntmps22
  go_wp2
  go_loopw [4, 3] (fun i o wr => ∃ k : Nat, k ≤ xs.length ∧ i = .int .i64 k ∧ wr.ownsRow w.heap.size 24 1 o (cutI (xs.take k)).length (u64s (cutI (xs.take k))) ∧ Below w.heap.size w wr) (fun i _ _ => xs.length - (intOf i).toNat)
  case atStart => exact ⟨0, by omega, rfl, by simpa [cutI_nil] using World.ownsRow_nil _ _ _ _, Below.refl _ _⟩
  case round =>
    obtain ⟨k, hk, rfl, hown, hbl⟩ := hrel
    have HO := Lib.hid hown
    have HB := Lib.hid hbl
    by_cases hlt : k < xs.length
    · obtain ⟨a, rfl, hcell0⟩ := hx k hlt
      have hcell : wr.cell? (a.add k) = some (.int .u64 (atI xs k)) := by
        rw [hbl.cell (World.block_lt_of_cell? w _ hcell0)]; exact hcell0
      have hts := List.take_succ_eq_append_getElem hlt
      rw [← atI_of_lt xs k hlt] at hts
      have hcl := cutI_len (xs.take k)
      have hpad := Lib.hid (cutI_pad (xs.take k))
      have hTK := Lib.hid (show (xs.take k).length = k by rw [List.length_take]; omega)
      rw [hTK.out] at hcl hpad
      have HC0 := Lib.hid hcell0
      generalize atI xs k = x at *
      clear hown hbl hx hcell0
      by_cases hx0 : x = 0
      · have ht : (x == 0) = true := by simpa using hx0
        have hcs : cutI (xs.take (k + 1)) = cutI (xs.take k) := by rw [hts, hx0, cutI_snoc_zero]
        have HCS := Lib.hid hcs
        clear hts hcs hx0
        go_wp2_with fail
        go_roundw
        case rel => exact ⟨k + 1, by omega, by go_num, by rw [HCS.out]; exact HO.out, HB.out⟩
        case measure => simp [intOf]; omega
      · have ht : (x == 0) = false := by simpa using hx0
        have hcs : cutI (xs.take (k + 1)) = xs.take k ++ [x] := by rw [hts, cutI_snoc _ _ hx0]
        have HCS := Lib.hid hcs
        clear hts hcs hx0
        obtain ⟨ys, hys⟩ : ∃ ys, ys = cutI (xs.take k) := ⟨_, rfl⟩
        rw [← hys] at HO hcl hpad
        clear hys
        obtain ⟨wo, rfl⟩ : ∃ wo : World, wo = wr := ⟨_, rfl⟩
        go_wp2_with fail
        go_loopw [3] (fun o wr => ∃ j : Nat, ys.length + j ≤ k ∧ wr.ownsRow w.heap.size 24 1 o (ys.length + j) (u64s (ys ++ List.replicate j 0)) ∧ Below w.heap.size w wr) (fun o _ => k - lenOf o)
        case atStart => exact ⟨0, by omega, by simpa using HO.out, HB.out⟩
        case round =>
          obtain ⟨j, hj, hown, hbl⟩ := hrel
          have hbs := hbl.size
          have HB2 := Lib.hid hbl
          have hcell2 : wr.cell? (a.add k) = some (.int .u64 x) := by rw [hbl.cell (World.block_lt_of_cell? w _ HC0.out)]; exact HC0.out
          obtain ⟨ao', c', rfl, hc1, hc2⟩ := own_slice hown
          obtain ⟨cs, hcs⟩ : ∃ cs, cs = u64s (ys ++ List.replicate j 0) := ⟨_, rfl⟩
          rw [← hcs] at hown
          have HO2 := Lib.hid hown
          have HCc := Lib.hid hcs
          unfold maxLen at hc2
          clear hown hbl hcs hcell
          by_cases h2 : ys.length + j < k
          · go_wp2_with (at_builtin; refine app_u64 rfl (.tmp 20) (.tmp 21) rfl rfl rfl HO2.out (by omega) hbs ?_; intro g cap w' hown hb' _ _; have hown := Lib.hid hown)
            go_roundw
            case rel => exact ⟨j + 1, by omega, by have := hown.out; rw [HCc.out] at this; simpa [List.replicate_succ', Nat.add_assoc] using this, HB2.out.trans hb'⟩
            case measure => simp [lenOf]; omega
          · have hjk : ys.length + j = k := by omega
            have hlast : u64s (ys ++ List.replicate j 0) = u64s (xs.take k) := by
              rw [show j = k - ys.length by omega, hpad.out]
            rw [hlast] at HCc
            have HJ := Lib.hid hjk
            go_wp2_with (at_builtin; refine app_u64 rfl (.tmp 23) (.tmp 28) rfl rfl rfl HO2.out (by omega) hbs ?_; intro g cap w' hown hb' _ _; have hown := Lib.hid hown)
            go_roundw
            case rel =>
              refine ⟨k + 1, by omega, by go_num, ?_, HB2.out.trans hb'⟩
              have := hown.out
              rw [HCc.out] at this
              rw [HCS.out]
              have e : (xs.take k ++ [x]).length = ys.length + j + 1 := by rw [List.length_append, hTK.out, HJ.out]; rfl
              have hj2 := HJ.out
              rw [e]
              rw [show ys.length + j + 1 = k + 1 by omega] at this ⊢
              simpa using this
            case measure => simp [intOf]; omega
    · have hkl : k = xs.length := by omega
      subst hkl
      have HT := Lib.hid (show xs.take xs.length = xs from List.take_length)
      clear hown hbl hx
      go_wp2_with fail
      go_ret
      exact ⟨_, rfl, by have := HO.out; rw [HT.out] at this; simpa using this, HB.out⟩

theorem longI_le_take (L : List (List Int)) (n : Nat) (h : ∀ r ∈ L, r.length ≤ n) (k : Nat) : longI (L.take k) ≤ n := longI_le _ _ (fun r hr => h r (List.mem_of_mem_take hr))

set_option maxHeartbeats 400000 in
theorem longest_any {v : Value} {L : List (List Int)} {w : World} (h : RowsR w v L) (hlen : ∀ r ∈ L, r.length ≤ 1048576) :
    Calls Try.prog 34 #[v] w fun e w' => e = .returned (.int .i64 (longI L)) ∧ w = w' := by
  obtain ⟨ao, c, rfl, hc, hm, hx⟩ := h
  unfold maxLen at hm
  have hb := fun k => longI_le_take L 1048576 hlen k
  go_enter Try.func34, Try.ntmps34
  go_wp2
  go_loop [4, 3] (fun i n => ∃ k : Nat, k ≤ L.length ∧ i = .int .i64 k ∧ n = .int .i64 (longI (L.take k))) (fun i _ => L.length - (intOf i).toNat)
  case atStart => exact ⟨0, by omega, rfl, rfl⟩
  case round =>
    obtain ⟨k, hk, rfl, rfl⟩ := hrel
    by_cases hlt : k < L.length
    · obtain ⟨a, u, rfl, hcell, hrow⟩ := hx k L[k] (List.getElem?_eq_getElem hlt)
      have hs := Lib.hid (longI_take_succ L k hlt)
      have hbk := hb k
      have hrl := hlen L[k] (List.getElem_mem hlt)
      generalize L[k] = r at *
      generalize longI (L.take k) = m at *
      obtain ⟨bo, cb, rfl, hcb, hmb, _⟩ := hrow.ints
      clear hx hb hrow
      by_cases hgt : m < r.length
      · go_wp2
        go_round
        case rel => exact ⟨k + 1, by omega, by go_num, by rw [hs.out, show max m r.length = r.length by omega]⟩
        case measure => simp [intOf]; omega
      · go_wp2
        go_round
        case rel => exact ⟨k + 1, by omega, by go_num, by rw [hs.out, show max m r.length = m by omega]⟩
        case measure => simp [intOf]; omega
    · have hkl : k = L.length := by omega
      subst hkl
      clear hx hb
      go_wp2
      go_ret
      exact ⟨rfl, rfl⟩

theorem RowsR.row {w : World} {v : Value} {L : List (List Int)} (h : RowsR w v L) : ∃ ao c, v = .slice ao L.length c ∧ L.length ≤ 9223372036854775807 ∧
    ∀ (i : Nat) (hi : i < L.length), ∃ a u, ao = some a ∧ w.cell? (a.add i) = some u ∧ SlR w u (u64s L[i]) := by
  obtain ⟨ao, c, h1, h2, h3, h4⟩ := h
  unfold maxLen at h3
  exact ⟨ao, c, h1, by omega, fun i hi => h4 i _ (List.getElem?_eq_getElem hi)⟩

def opOf (most : Bool) : Int → Int → Int := if most then max else min
theorem opOf_zero (most : Bool) : opOf most 0 0 = 0 := by cases most <;> rfl

set_option maxHeartbeats 800000 in
theorem least_any {v : Value} {L : List (List Int)} {w : World} (most : Bool) (h : RowsR w v L) (hlen : ∀ r ∈ L, r.length ≤ 1048576) :
    Calls Try.prog 24 #[v, .bool most] w (RetOwn w 24 (u64s (cutI (foldI (opOf most) L)))) := by
  have H := Lib.hid h
  have hbl0 := longI_le L 1048576 hlen
  have HE := Lib.hid (foldI_eq (opOf most) (opOf_zero most) L)
  have HLE := Lib.hid (foldI_len (opOf most) L)
  obtain ⟨ao, c, rfl, hm, hx⟩ := h.row
  go_enter Try.func24, Try.ntmps24
  go_wp2
  go_loopw [6, 5] (fun i o wr => ∃ k : Nat, k ≤ longI L ∧ i = .int .i64 k ∧ wr.ownsRow w.heap.size 24 1 o k (u64s ((List.range k).map (atFold (opOf most) L))) ∧ Below w.heap.size w wr) (fun i _ _ => longI L - (intOf i).toNat)
  case atStart => exact ⟨0, by omega, rfl, by simpa using World.ownsRow_nil _ _ _ _, Below.refl _ _⟩
  case round =>
    obtain ⟨k, hk, rfl, hown, hbl⟩ := hrel
    have HO := Lib.hid hown
    have HB := Lib.hid hbl
    have HR := Lib.hid (H.out.below hbl (Nat.le_refl _))
    clear hown hbl
    by_cases hlt : k < longI L
    · have hL : 0 < L.length := by
        cases L with
        | nil => simp [longI] at hlt
        | cons => simp
      have hcellAt : ∀ (i : Nat) (hi : i < L.length), ∃ a u, ao = some a ∧ wr.cell? (a.add i) = some u ∧ SlR wr u (u64s L[i]) := by
        obtain ⟨ao', c', hv, _, hh⟩ := HR.out.row
        cases hv
        exact hh
      clear hx
      have HX := Lib.hid hcellAt
      obtain ⟨a, u0, rfl, hc0, hr0⟩ := hcellAt 0 hL
      have hc0' : wr.cell? a = some u0 := by simpa [Addr.add] using hc0
      clear hc0 hcellAt
      have hone : atFold (opOf most) (L.take 1) k = atI L[0] k := by
        cases L with
        | nil => simp at hL
        | cons v r => simp [atFold]
      have H1 := Lib.hid hone
      have HS0 := Lib.hid hr0
      generalize L[0] = r0 at *
      obtain ⟨bo, cb, rfl, _, _, _⟩ := hr0.ints
      clear hone hr0
      go_wp2_with (first
        | (go_at_call 34; ((with_reducible refine (longest_any HR.out hlen).mono ?_); rintro e w' ⟨rfl, rfl⟩))
        | (go_at_call 20; ((with_reducible refine (rat_any _ HS0.out).mono ?_); rintro e w' ⟨rfl, rfl⟩)))
      go_loop [8, 7] (fun j x => ∃ m : Nat, 1 ≤ m ∧ m ≤ L.length ∧ j = .int .i64 m ∧ x = .int .u64 (atFold (opOf most) (L.take m) k)) (fun j _ => L.length - (intOf j).toNat)
      case atStart => exact ⟨1, by omega, by omega, rfl, by rw [H1.out]⟩
      case round =>
        obtain ⟨m, hm1, hm2, rfl, rfl⟩ := hrel
        by_cases hlm : m < L.length
        · obtain ⟨a', u, ea, hcm, hrm⟩ := HX.out m hlm
          cases ea
          have hst := Lib.hid (atFold_take_succ (opOf most) L k m hm1 hlm)
          have HSm := Lib.hid hrm
          generalize L[m] = rm at *
          obtain ⟨bo2, cb2, rfl, _, _, _⟩ := hrm.ints
          clear hrm
          generalize hX : atFold (opOf most) (L.take m) k = X at *
          generalize hY : atI rm k = Y at *
          have HY := Lib.hid hY
          have HX2 := Lib.hid hX
          clear hX hY
          have hat := Lib.hid (rat_any (k : Int) HSm.out)
          rw [HY.out] at hat
          cases most with
          | true =>
            by_cases hgt : X < Y
            · go_wp2_with (go_at_call 20; ((with_reducible refine (hat.out).mono ?_); rintro e w' ⟨rfl, rfl⟩))
              go_round
              case rel => exact ⟨m + 1, by omega, by omega, by go_num, by rw [hst.out]; simp only [opOf, if_true]; rw [show max X Y = Y by omega]⟩
              case measure => simp [intOf]; omega
            · go_wp2_with (go_at_call 20; ((with_reducible refine (hat.out).mono ?_); rintro e w' ⟨rfl, rfl⟩))
              go_round
              case rel => exact ⟨m + 1, by omega, by omega, by go_num, by rw [hst.out]; simp only [opOf, if_true]; rw [show max X Y = X by omega]⟩
              case measure => simp [intOf]; omega
          | false =>
            by_cases hgt : Y < X
            · go_wp2_with (go_at_call 20; ((with_reducible refine (hat.out).mono ?_); rintro e w' ⟨rfl, rfl⟩))
              go_round
              case rel => exact ⟨m + 1, by omega, by omega, by go_num, by rw [hst.out]; simp only [opOf, Bool.false_eq_true, if_false]; rw [show min X Y = Y by omega]⟩
              case measure => simp [intOf]; omega
            · go_wp2_with (go_at_call 20; ((with_reducible refine (hat.out).mono ?_); rintro e w' ⟨rfl, rfl⟩))
              go_round
              case rel => exact ⟨m + 1, by omega, by omega, by go_num, by rw [hst.out]; simp only [opOf, Bool.false_eq_true, if_false]; rw [show min X Y = X by omega]⟩
              case measure => simp [intOf]; omega
        · have hmL : m = L.length := by omega
          subst hmL
          obtain ⟨cs, hcs⟩ : ∃ cs, cs = u64s ((List.range k).map (atFold (opOf most) L)) := ⟨_, rfl⟩
          rw [← hcs] at HO
          have HCs := Lib.hid hcs
          have hbs := HB.out.size
          clear hcs
          go_wp2_with (at_builtin; refine app_u64 rfl (.tmp 49) (.tmp 51) rfl rfl rfl HO.out (by omega) hbs ?_; intro g cap w' hown hb' _ _; have hown := Lib.hid hown)
          go_roundw
          case rel => exact ⟨k + 1, by omega, by go_num, by have := hown.out; rw [HCs.out] at this; simpa [List.range_succ] using this, HB.out.trans hb'⟩
          case measure => simp [intOf]; omega
    · have hkl : k = longI L := by omega
      subst hkl
      clear hx
      have hO2 := HO.out
      rw [← HE.out] at hO2
      have HO2 := Lib.hid hO2
      have hle : (foldI (opOf most) L).length ≤ 1048576 := by rw [HLE.out]; exact hbl0
      clear hO2
      go_wp2_with (first
        | (go_at_call 34; ((with_reducible refine (longest_any HR.out hlen).mono ?_); rintro e w' ⟨rfl, rfl⟩))
        | (go_at_call 22; refine (rcut_any (SlR.of_own HO2.out) hle).mono ?_; rintro e w' ⟨v', rfl, hown, hb⟩))
      go_ret
      exact ⟨v', rfl, hown.weaken HB.out.size, HB.out.trans (hb.mono HB.out.size)⟩
end Go.Proofs.Ytbdcbdngamglaaa
