/-
  ClientTurns: what is asked of those that order is asked by turns, one after the other; what is asked of a shard of its node alone. No conditions.
-/
import Derived.Test.YtdmfladjhjpafaaCliF
import Derived.Test.YtdmfladjhjpafaaFrame
namespace Go.Proofs.Ytdmfladjhjpafaa
open Go.ChangeShapes Go.WideShapes Go.ChangeAt Go.RowKit Go.Maps
set_option maxRecDepth 1000000

def upto (n : Nat) : List Int := (List.range n).map (fun i : Nat => (i : Int))
theorem upto_len (n : Nat) : (upto n).length = n := by simp [upto]
theorem upto_succ (n : Nat) : upto (n + 1) = upto n ++ [(n : Int)] := by simp [upto, List.range_succ]
theorem upto_at {n i : Nat} (h : i < n) : (upto n).getD i 0 = i := by simp [upto, h]
theorem upto_good {n : Nat} (h1 : 1 ≤ n) (h7 : n ≤ 7) : nodesB (upto n) 7 = true := by
  obtain h | h | h | h | h | h | h : n = 1 ∨ n = 2 ∨ n = 3 ∨ n = 4 ∨ n = 5 ∨ n = 6 ∨ n = 7 := by omega
  all_goals subst h; decide
def ctA (n : Nat) : CS := ⟨4, 0, [[20, 21]], upto n, fun _ => none⟩
def ctX (adds : Bool) : Cl := if adds then ⟨1, 0, 1, 0, []⟩ else ⟨4, 0, 0, 0, []⟩
/-- The client behind so many asks. -/
def ctS (n : Nat) (adds : Bool) (k : Int) : CS := begL (ctA n) (ctX adds) k
theorem ctS_l (n : Nat) (adds : Bool) (k a : Int) : (ctS n adds k).l a = if a = 1 then some (ctX adds, k) else none := rfl
theorem ctS_tick (n : Nat) (adds : Bool) (k : Int) : tickA (ctS n adds k) = ctS n adds (k + 1) := by
  unfold tickA ctS begL setL
  simp only [CS.mk.injEq, true_and]
  funext a
  by_cases e : a = (ctA n).last + 1
  · rw [if_pos e, if_pos e]; rfl
  · rw [if_neg e, if_neg e]; rfl
theorem ctS_some (n : Nat) (adds : Bool) (k b : Int) : ((ctS n adds k).l b).isSome = true ↔ b = 1 := by
  rw [ctS_l]
  by_cases e : b = 1
  · simp [e]
  · simp [e]
def ctTo (n : Nat) (adds : Bool) (t : Nat) : Int := if adds then 21 else ((t % n : Nat) : Int)
theorem ct_to {n : Nat} (h : 1 ≤ n) (adds : Bool) (k : Int) (t : Nat) : askTo (ctS n adds k) (ctX adds) t = ctTo n adds t := by
  cases adds with
  | true => rfl
  | false =>
    show oeq (upto n) ((t : Int)).toNat = _
    unfold oeq ctTo
    rw [upto_len, Int.toNat_natCast, upto_at (Nat.mod_lt _ (by omega))]
    rfl
theorem ct_ms (adds : Bool) : (askMs 4 1 (ctX adds)).client = 4 ∧ (askMs 4 1 (ctX adds)).seq = 1 := by cases adds <;> exact ⟨rfl, rfl⟩
theorem ct_ok (n : Nat) (adds : Bool) : ClOk (ctA n).shards (ctX adds) := by
  cases adds with
  | true => exact ⟨by decide, by decide, by decide, by constructor <;> decide, (by intro a ha; cases ha), by decide, fun _ => ⟨[20, 21], rfl, by decide⟩⟩
  | false => exact ⟨by decide, by decide, by decide, by constructor <;> decide, (by intro a ha; cases ha), by decide, fun h => absurd h (by decide)⟩
/-- Shards' one row, typed out. -/
theorem shards_arg (w : World) (r : List Int) (hr : r.length ≤ 1000) (T1 T2 : TypeId) :
    RowsK ((w.alloc (.cells (i64s r).toArray T1)).alloc (.cells #[.slice (some ⟨w.heap.size, 0, none⟩) r.length r.length] T2)) .i64 (.slice (some ⟨w.heap.size + 1, 0, none⟩) 1 1) [r] ∧
    Below w.heap.size w ((w.alloc (.cells (i64s r).toArray T1)).alloc (.cells #[.slice (some ⟨w.heap.size, 0, none⟩) r.length r.length] T2)) := by
  have z1 : (w.alloc (.cells (i64s r).toArray T1)).heap.size = w.heap.size + 1 := by simp
  have h1 := lit_i64 w r T1 hr
  have h2 : SlR ((w.alloc (.cells (i64s r).toArray T1)).alloc (.cells #[.slice (some ⟨w.heap.size, 0, none⟩) r.length r.length] T2)) (.slice (some ⟨w.heap.size + 1, 0, none⟩) 1 1) [.slice (some ⟨w.heap.size, 0, none⟩) r.length r.length] := by
    have := SlR.of_own (own_lit (w.alloc (.cells (i64s r).toArray T1)) [.slice (some ⟨w.heap.size, 0, none⟩) r.length r.length] T2 (by simp))
    rw [z1] at this
    simpa using this
  have b2 := below_lit (w.alloc (.cells (i64s r).toArray T1)) (.cells #[.slice (some ⟨w.heap.size, 0, none⟩) r.length r.length] T2)
  refine ⟨⟨_, h2, ⟨rfl, fun i u x hu hx => ?_⟩⟩, (below_lit w _).alloc (by simp) _⟩
  cases i with
  | zero =>
    cases hu; cases hx
    exact h1.below b2 (Nat.le_refl _)
  | succ i => simp at hx
set_option maxHeartbeats 4000000 in
theorem clientTurns_walk {x0 x1 : Int} {x2 : Bool} (w0 : (Lit.int .u8 x0).wf = true) (w1 : (Lit.int .u8 x1).wf = true) {W : World} :
    Calls Try.prog 4 #[.int .u8 x0, .int .u8 x1, .bool x2] W fun e W' => e = .returned (.bool true) ∧ Below W.heap.size W W' := by
  simp [Lit.wf, IntKind.min, IntKind.max, IntKind.signed, IntKind.bits] at w0 w1
  obtain ⟨a0, a1⟩ := w0
  obtain ⟨c0, c1⟩ := w1
  obtain ⟨i0, hi, hz0, hz1, hz2⟩ := info_parts Try.intInfo
  obtain ⟨n, hn⟩ : ∃ n : Nat, x0 % 7 + 1 = (n : Int) := ⟨(x0 % 7 + 1).toNat, by omega⟩
  obtain ⟨T, hT⟩ : ∃ T : Nat, x1 % 30 = (T : Int) := ⟨(x1 % 30).toNat, by omega⟩
  have hn7 : 1 ≤ n ∧ n ≤ 7 := by omega
  have hT30 : T < 30 := by omega
  have HN := Lib.hid hn
  have HT := Lib.hid hT
  clear hn hT
  go_enter Try.func4, Try.ntmps4
  go_wp2_with fail
  refine (cawake_any W).mono ?_
  rintro e w1 ⟨rfl, hb1⟩
  have HB1 := Lib.hid hb1
  clear hb1
  go_upto_region 5 with fail
  rw [HN.out]
  go_wp2_with fail
  go_loopw [10, 9] (fun i lv wr => ∃ (k : Nat) (ao : Option Addr) (c : Nat), k ≤ n ∧ i = .int .i64 k ∧ lv = .slice ao k c ∧ SepW W wr [obRow (.slice ao k c) 3 1 k (i64s (upto k))]) (fun i _ _ => n - (intOf i).toNat)
  case atStart => exact ⟨0, none, 0, by omega, rfl, rfl, (SepW.nil HB1.out).newRow (World.ownsRow_nil _ _ _ _) (Below.refl _ _)⟩
  case round =>
    clear HB1
    obtain ⟨k, ao, c, hk, rfl, rfl, hs⟩ := hrel
    have HS := Lib.hid hs
    have HO := Lib.hid (show World.ownsRow wr 0 3 1 (.slice ao k c) k (i64s (upto k)) from hs.get 0 rfl)
    clear hs
    by_cases hlt : k < n
    · have hki : (k : Int) < (n : Int) := by omega
      have h1l : k ≤ 1099511627776 := by omega
      go_wp2_with (first
        | (at_builtin; (refine wpList_app1 rfl (.tmp 31) (.tmp 33) 29 rfl 0 3 i0 (.int .i64 0) 8 Try.underlying29 hi hz0 hz1 hz2 rfl (by decide) rfl rfl HO.out rfl h1l (Nat.zero_le _) ?_)
           intro g cap w2 hown hb2 hg2 hk2
           have HS2 := Lib.hid (HS.out.set 0 rfl (o' := obRow (.slice (some ⟨g, 0, none⟩) (k + 1) cap) 3 1 (k + 1) (i64s (upto (k + 1)))) (keep_app hb2 hk2) (obRow_good ..) (by rw [upto_succ]; simpa [obRow] using hown) (fun q hq => by
             have e : g = q := by simpa [obRow, Value.ownBlock] using hq
             subst e
             exact hg2))
           clear hown hb2 hg2 hk2)
        | fail)
      go_roundw
      case rel => exact ⟨k + 1, _, _, by omega, by go_num, rfl, HS2.out⟩
      case measure => simp [intOf]; omega
    · have hkn : k = n := by omega
      subst hkn
      have hkd : decide ((k : Int) < (k : Int)) = false := decide_eq_false (by omega)
      clear hlt hk
      go_wp2_with fail
      obtain ⟨hr, hb⟩ := shards_arg wr [20, 21] (by decide) 3 29
      refine ((HS.out.step hb).cliNew (id := 4) (by constructor <;> decide) (by decide) hr (by decide) ((HS.out.step hb).row 0 rfl) (upto_good hn7.1 hn7.2) (by decide)).mono ?_
      rintro e w3 ⟨b0, D, rfl, hs3⟩
      have HS3 : Hid (SepW W w3 [obCli (.pointer (some ⟨b0, 0, none⟩)) D 0 (ctA k)]) := Lib.hid (hs3.sub (List.sublist_append_left [_] _))
      clear hs3 hr hb HS HO
      cases x2
      · have HCt := Lib.hid (fun t : Nat => ct_to hn7.1 false (t + 1) t)
        go_wp2_with fail
        refine ((HS3.out.step (below_lit _ _)).cliBegin 0 rfl (x := ctX false) (sv := .slice none 0 0) (SlR.nil _) (ct_ok k false) (Or.inl rfl) (Or.inl rfl) (fun h => absurd h (by decide)) (by decide) (by show (0 : Int) < 1000000; decide)).mono ?_
        rintro e w4 ⟨g, bv, D2, rfl, hs4⟩
        have h00 := HCt.out 0
        have hs4 : SepW W w4 [obBlk g (.cells (outC (askTo (ctS k false ((0 : Nat) + 1)) (ctX false) ((0 : Nat) : Int)) (askMs 4 1 (ctX false)) (.slice none 0 0) bv) 48), obCli (.pointer (some ⟨b0, 0, none⟩)) D2 2 (ctS k false 1)] := hs4
        rw [h00] at hs4
        obtain ⟨e0, _⟩ := hs4.blk 0 rfl 0 _ rfl
        obtain ⟨e6, _⟩ := hs4.blk 0 rfl 6 _ rfl
        obtain ⟨e7, _⟩ := hs4.blk 0 rfl 7 _ rfl
        have HE := Lib.hid (And.intro e0 (And.intro e6 e7))
        have HS4 : Hid (SepW W w4 [obCli (.pointer (some ⟨b0, 0, none⟩)) D2 2 (ctS k false 1)]) := Lib.hid (hs4.sub (List.sublist_cons_self _ _))
        clear h00 hs4 e0 e6 e7 HS3
        go_wp2_with fail
        go_loopw [17, 15, 18] (fun i ov _ wr => ∃ (t g c : Nat) (D : Nat → Prop), t ≤ T + 1 ∧ i = .int .i64 t ∧ ov = .slice (some ⟨g, 0, none⟩) 1 c ∧ 1 ≤ c ∧ (wr.cell? ⟨g, 0, none⟩ = some (.int .i64 (ctTo k false t)) ∧ wr.cell? ⟨g, 6, none⟩ = some (.int .u64 4) ∧ wr.cell? ⟨g, 7, none⟩ = some (.int .u64 1)) ∧ SepW W wr [obCli (.pointer (some ⟨b0, 0, none⟩)) D (t + 2) (ctS k false (t + 1))]) (fun i _ _ _ => T + 1 - (intOf i).toNat)
        case atStart => exact ⟨0, g, 1, D2, by omega, rfl, rfl, Nat.le_refl _, HE.out, HS4.out⟩
        case round =>
          clear HE HS4
          obtain ⟨t, g, c, D3, ht, rfl, rfl, hc1, hcells, hs⟩ := hrel
          have HS := Lib.hid hs
          have HCl := Lib.hid hcells
          clear hs hcells
          have hT := HT.out
          by_cases hlt : t ≤ T
          · have hli : (t : Int) ≤ (T : Int) := by omega
            obtain ⟨e0, e6, e7⟩ := HCl.out
            have hct : ctTo k false t = ((t % k : Nat) : Int) := rfl
            rw [hct] at e0
            have hk0 : ¬ (k = 0) := by omega
            clear hct
            go_wp2_with fail
            refine (HS.out.cliTick 0 rfl (K := [1]) (by show t + 2 + 1 < 1000000; omega) (fun a ha => by simp [(ctS_some _ _ _ _).1 ha]) (fun a y m e => by
              rw [ctS_l] at e
              split at e
              · cases e; omega
              · cases e)).mono ?_
            rintro e w5 ⟨ks, ao, c5, cs, hks, rfl, hcs, hs5⟩
            obtain rfl := keys_one hks (fun b => ctS_some _ _ _ _)
            have hcs : OutC cs [(askTo (ctS k false ((t + 1 : Nat) + 1)) (ctX false) ((t + 1 : Nat) : Int), askMs 4 1 (ctX false))] := hcs
            rw [HCt.out (t + 1)] at hcs
            obtain ⟨bv5, rfl⟩ := hcs.one
            obtain ⟨g5, cap5, hg5, hcap, hc5⟩ := own_cells (hs5.get 0 rfl : World.ownsRow _ 0 _ 12 _ 1 _) (by decide)
            cases hg5
            have HC5 := Lib.hid (And.intro (hc5 0 _ rfl) (And.intro (hc5 6 _ rfl) (hc5 7 _ rfl)))
            have hs6 := hs5.sub (List.sublist_cons_self _ _)
            have HS6 : Hid (SepW W w5 [obCli (.pointer (some ⟨b0, 0, none⟩)) D3 (t + 2 + 1) (tickA (ctS k false (t + 1)))]) := Lib.hid hs6
            rw [ctS_tick] at HS6
            clear hs5 hs6 hc5 hks hcs e0 e6 e7 hT
            go_wp2_with fail
            go_roundw
            case rel => exact ⟨t + 1, g5, c5, D3, by omega, by go_num, rfl, hcap, HC5.out, HS6.out⟩
            case measure => simp [intOf]; omega
          · have hld : decide ((t : Int) ≤ (T : Int)) = false := decide_eq_false (by omega)
            have hldn : decide (t ≤ T) = false := decide_eq_false hlt
            go_wp2_with fail
            go_ret
            exact ⟨rfl, HS.out.below⟩
      · have HCt := Lib.hid (fun t : Nat => ct_to hn7.1 true (t + 1) t)
        go_wp2_with fail
        refine ((HS3.out.step (below_lit _ _)).cliBegin 0 rfl (x := ctX true) (sv := .slice none 0 0) (SlR.nil _) (ct_ok k true) (Or.inl rfl) (Or.inl rfl) (fun h => rfl) (by decide) (by show (0 : Int) < 1000000; decide)).mono ?_
        rintro e w4 ⟨g, bv, D2, rfl, hs4⟩
        have h00 := HCt.out 0
        have hs4 : SepW W w4 [obBlk g (.cells (outC (askTo (ctS k true ((0 : Nat) + 1)) (ctX true) ((0 : Nat) : Int)) (askMs 4 1 (ctX true)) (.slice none 0 0) bv) 48), obCli (.pointer (some ⟨b0, 0, none⟩)) D2 2 (ctS k true 1)] := hs4
        rw [h00] at hs4
        obtain ⟨e0, _⟩ := hs4.blk 0 rfl 0 _ rfl
        obtain ⟨e6, _⟩ := hs4.blk 0 rfl 6 _ rfl
        obtain ⟨e7, _⟩ := hs4.blk 0 rfl 7 _ rfl
        have HE := Lib.hid (And.intro e0 (And.intro e6 e7))
        have HS4 : Hid (SepW W w4 [obCli (.pointer (some ⟨b0, 0, none⟩)) D2 2 (ctS k true 1)]) := Lib.hid (hs4.sub (List.sublist_cons_self _ _))
        clear h00 hs4 e0 e6 e7 HS3
        go_wp2_with fail
        go_loopw [17, 15, 18] (fun i ov _ wr => ∃ (t g c : Nat) (D : Nat → Prop), t ≤ T + 1 ∧ i = .int .i64 t ∧ ov = .slice (some ⟨g, 0, none⟩) 1 c ∧ 1 ≤ c ∧ (wr.cell? ⟨g, 0, none⟩ = some (.int .i64 (ctTo k true t)) ∧ wr.cell? ⟨g, 6, none⟩ = some (.int .u64 4) ∧ wr.cell? ⟨g, 7, none⟩ = some (.int .u64 1)) ∧ SepW W wr [obCli (.pointer (some ⟨b0, 0, none⟩)) D (t + 2) (ctS k true (t + 1))]) (fun i _ _ _ => T + 1 - (intOf i).toNat)
        case atStart => exact ⟨0, g, 1, D2, by omega, rfl, rfl, Nat.le_refl _, HE.out, HS4.out⟩
        case round =>
          clear HE HS4
          obtain ⟨t, g, c, D3, ht, rfl, rfl, hc1, hcells, hs⟩ := hrel
          have HS := Lib.hid hs
          have HCl := Lib.hid hcells
          clear hs hcells
          have hT := HT.out
          by_cases hlt : t ≤ T
          · have hli : (t : Int) ≤ (T : Int) := by omega
            obtain ⟨e0, e6, e7⟩ := HCl.out
            have hct : ctTo k true t = 21 := rfl
            rw [hct] at e0
            have hk0 : ¬ (k = 0) := by omega
            clear hct
            go_wp2_with fail
            refine (HS.out.cliTick 0 rfl (K := [1]) (by show t + 2 + 1 < 1000000; omega) (fun a ha => by simp [(ctS_some _ _ _ _).1 ha]) (fun a y m e => by
              rw [ctS_l] at e
              split at e
              · cases e; omega
              · cases e)).mono ?_
            rintro e w5 ⟨ks, ao, c5, cs, hks, rfl, hcs, hs5⟩
            obtain rfl := keys_one hks (fun b => ctS_some _ _ _ _)
            have hcs : OutC cs [(askTo (ctS k true ((t + 1 : Nat) + 1)) (ctX true) ((t + 1 : Nat) : Int), askMs 4 1 (ctX true))] := hcs
            rw [HCt.out (t + 1)] at hcs
            obtain ⟨bv5, rfl⟩ := hcs.one
            obtain ⟨g5, cap5, hg5, hcap, hc5⟩ := own_cells (hs5.get 0 rfl : World.ownsRow _ 0 _ 12 _ 1 _) (by decide)
            cases hg5
            have HC5 := Lib.hid (And.intro (hc5 0 _ rfl) (And.intro (hc5 6 _ rfl) (hc5 7 _ rfl)))
            have hs6 := hs5.sub (List.sublist_cons_self _ _)
            have HS6 : Hid (SepW W w5 [obCli (.pointer (some ⟨b0, 0, none⟩)) D3 (t + 2 + 1) (tickA (ctS k true (t + 1)))]) := Lib.hid hs6
            rw [ctS_tick] at HS6
            clear hs5 hs6 hc5 hks hcs e0 e6 e7 hT
            go_wp2_with fail
            go_roundw
            case rel => exact ⟨t + 1, g5, c5, D3, by omega, by go_num, rfl, hcap, HC5.out, HS6.out⟩
            case measure => simp [intOf]; omega
          · have hld : decide ((t : Int) ≤ (T : Int)) = false := decide_eq_false (by omega)
            have hldn : decide (t ≤ T) = false := decide_eq_false hlt
            go_wp2_with fail
            go_ret
            exact ⟨rfl, HS.out.below⟩
theorem clientTurns_holds : Rows.ClientTurnsSaid :=
  OpenClaim.holds_of_wide 4 Try.f4 rfl rfl rfl rfl rfl rfl rfl ⟨rfl, rfl, rfl, rfl, rfl⟩ rfl rfl rfl rfl rfl (by kernel_rfl) Try.func4 (by kernel_rfl)
    (of_decide_eq_true (by kernel_rfl)) (by unfold Func.isWrapper; rw [if_neg (by decide +kernel)]; exact ⟨rfl, rfl⟩)
    (fun os started H enc _ => law_frame (C := Try.checked) (fn := Try.f4) (s := Rows.clientTurnsSpec) (tb := 4) Try.own started (by kernel_rfl) Try.func4 Try.laidOut rfl (by kernel_rfl) Try.underlying4 (by kernel_rfl)
      (fun ds hd => by match ds, hd with | [_, _, _], _ => exact ⟨rfl, rfl, rfl⟩)
      (ChangeSpec.witness6 (enc := enc) (C := Try.checked) false ⟨#[], #[.int .u8 0, .int .u8 0, .bool false], []⟩ 8 (by kernel_rfl) (by kernel_rfl) (by kernel_rfl) (by kernel_rfl))
      (fun W base args ds p hval0 hA0 _ => by
        have hval : ∀ (j : Nat) t v, Try.f4.params[j]? = some t → args[j]? = some v → Value.okWide Try.prog W .any base t v := hval0
        have hA : DataW.TrodAll enc Try.prog W 0 (fun _ => true) true Try.f4.params.toList args.toList ds p := hA0
        rw [Try.params4] at hA hval
        obtain ⟨v0, v1, v2, d0, d1, d2, p0, p1, p2, rfl, rfl, rfl, h0, h1, h2⟩ := trodAll_three hA
        obtain ⟨x0, rfl, rfl, rfl, wx0⟩ := open_int Try.underlying5 (hval 0 5 v0 rfl rfl) h0
        obtain ⟨x1, rfl, rfl, rfl, wx1⟩ := open_int Try.underlying5 (hval 1 5 v1 rfl rfl) h1
        obtain ⟨x2, rfl, rfl, rfl⟩ := open_bool Try.underlying4 (hval 2 4 v2 rfl rfl) h2
        exact clientTurns_walk wx0 wx1))

end Go.Proofs.Ytdmfladjhjpafaa
