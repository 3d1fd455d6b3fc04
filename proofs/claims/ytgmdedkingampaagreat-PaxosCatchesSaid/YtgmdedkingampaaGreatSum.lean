/-
  Package sums: the sum of bytes is a function of the bytes.
-/
import Derived.Test.YtgmdedkingampaaGreatBlr
import Derived.Test.YtgmdedkingampaaGreatProg
set_option linter.unusedVariables false
set_option linter.unusedSimpArgs false
namespace Go.Proofs.YtgmdedkingampaaGreat
open Go.ChangeShapes Go.WideShapes Go.ChangeAt Go.RowKit Go.Maps
set_option maxRecDepth 100000

def sumOdd (x : Int) : Int := bits .xor .u32 (x / 2) (IntKind.u32.wrap (bits .and .u32 x 1 * 2197175160))
def sumTab (k : Nat) : Int := sumOdd (sumOdd (sumOdd (sumOdd k)))
def sumIt (k : Nat) : Nat → Int
  | 0 => k
  | m + 1 => sumOdd (sumIt k m)
def sumUp (k : Nat) : Array Value := ((List.range 16).map fun j => Value.int .u32 (if j < k then sumTab j else 0)).toArray
theorem sumUp_set {k : Nat} : (sumUp k).setIfInBounds k (.int .u32 (sumTab k)) = sumUp (k + 1) := by
  apply Array.ext_getElem?
  intro i
  unfold sumUp
  simp only [Array.getElem?_setIfInBounds, List.getElem?_toArray, List.getElem?_map, List.size_toArray, List.length_map, List.length_range]
  by_cases h : k = i
  · subst h
    rw [if_pos rfl]
    by_cases hk : k < 16
    · rw [if_pos hk, List.getElem?_range hk]; simp
    · rw [if_neg hk, List.getElem?_eq_none (by simp; omega)]; rfl
  · rw [if_neg h]
    by_cases hi : i < 16
    · rw [List.getElem?_range hi]
      simp only [Option.map_some]
      by_cases hik : i < k
      · rw [if_pos hik, if_pos (by omega)]
      · rw [if_neg hik, if_neg (by omega)]
    · rw [List.getElem?_eq_none (by simp; omega)]; rfl
set_option maxHeartbeats 400000 in
theorem stable_any (w : World) : Calls Tryz.prog 161 #[] w fun e w' => e = .returned (.agg (sumUp 16)) ∧ Below w.heap.size w w' := by
  have h0 : sumUp 0 = #[.int .u32 0, .int .u32 0, .int .u32 0, .int .u32 0, .int .u32 0, .int .u32 0, .int .u32 0, .int .u32 0, .int .u32 0, .int .u32 0, .int .u32 0, .int .u32 0, .int .u32 0, .int .u32 0, .int .u32 0, .int .u32 0] := rfl
  have hs := ((SepW.nil (Below.refl w.heap.size w)).newBlk (sumUp 0) 233).newBlk (sumUp 0) 233
  have hz : (w.alloc (.cells (sumUp 0) 233)).heap.size = w.heap.size + 1 := by simp
  rw [hz] at hs
  have HS := Lib.hid hs
  clear hs hz
  go_enter Tryz.func161, Tryz.ntmps161
  go_wp2_with fail
  rw [← h0]
  clear h0
  go_loopw [4] (fun i wr => ∃ k : Nat, k ≤ 16 ∧ i = .int .i64 k ∧ SepW w wr [obBlk (w.heap.size + 1) (.cells (sumUp k) 233), obBlk w.heap.size (.cells (sumUp 0) 233)]) (fun i _ => 16 - (intOf i).toNat)
  case atStart => exact ⟨0, by omega, rfl, HS.out⟩
  case round =>
    clear HS
    obtain ⟨k, hk, rfl, hs⟩ := hrel
    have HS := Lib.hid hs
    clear hs
    by_cases hlt : k < 16
    · have hlt2 : (k : Int) < 16 := by omega
      have hw : IntKind.u32.wrap (k : Int) = (k : Int) := IntWalk.u32_in _ (by constructor <;> omega)
      go_wp2_with fail
      go_loopw [9, 3] (fun j x wr' => ∃ m : Nat, m ≤ 4 ∧ j = .int .i64 m ∧ x = .int .u32 (sumIt k m) ∧ SepW w wr' [obBlk (w.heap.size + 1) (.cells (sumUp k) 233), obBlk w.heap.size (.cells (sumUp 0) 233)]) (fun j _ _ => 4 - (intOf j).toNat)
      case atStart => exact ⟨0, by omega, rfl, rfl, HS.out⟩
      case round =>
        clear HS
        obtain ⟨m, hm, rfl, rfl, hs⟩ := hrel
        have HS := Lib.hid hs
        clear hs
        by_cases hm4 : m < 4
        · have hm5 : (m : Int) < 4 := by omega
          go_wp2_with fail
          go_roundw
          case rel => exact ⟨m + 1, by omega, by go_num, rfl, HS.out⟩
          case measure => simp [intOf]; omega
        · have : m = 4 := by omega
          subst this
          have hc : (sumUp k).toList[k]? = some (.int .u32 0) := by
            unfold sumUp
            rw [List.getElem?_map, List.getElem?_range hlt]
            simp
          have hc1 := (HS.out.blk 0 rfl k _ hc).1
          have hc2 := (HS.out.blk 0 rfl k _ hc).2
          have HS2 := Lib.hid (HS.out.blkSet 0 rfl k (.int .u32 (sumTab k)))
          have he : sumIt k 4 = sumTab k := rfl
          rw [he]
          clear hc
          go_wp2_with fail
          go_roundw
          case rel =>
            have := HS2.out
            rw [sumUp_set] at this
            exact ⟨k + 1, by omega, by go_num, this⟩
          case measure => simp [intOf]; omega
    · have : k = 16 := by omega
      subst this
      go_wp2_with (first
        | (refine wpList_loadRow rfl 233 (.tmp 1) rfl (w.heap.size + 1) (sumUp 16) 233 (HS.out.get 0 rfl) rfl _ Tryz.underlying233 rfl (by kernel_rfl) ?_)
        | (refine wpList_store_rowTo rfl 233 (.tmp 0) (.tmp 22) rfl rfl w.heap.size (sumUp 16) rfl rfl 233 _ (HS.out.get 1 rfl) (by kernel_rfl) rfl (by kernel_rfl) ?_)
        | fail)
      have HS2 := Lib.hid (HS.out.rowBlk 1 (sumUp 16) rfl)
      refine bodyPost_cell rfl w.heap.size (cells := sumUp 16) rfl (HS2.out.get 1 rfl) Tryz.underlying233 rfl (by kernel_rfl) rfl ⟨rfl, HS2.out.below⟩
def sumNib (x n : Int) : Int := bits .xor .u32 (x / 16) (sumTab (bits .xor .u8 (x % 16) n).toNat)
def sumByte (x c : Int) : Int := sumNib (sumNib x (c % 16)) (c / 16)
def sumAll (xs : List Int) : Int := xs.foldl sumByte 4294967295
theorem xor_nib {a b : Int} (ha : 0 ≤ a) (ha2 : a < 16) (hb : 0 ≤ b) (hb2 : b < 16) : 0 ≤ bits .xor .u8 a b ∧ bits .xor .u8 a b < 16 := by
  obtain ⟨m, rfl⟩ : ∃ m : Nat, a = m := ⟨a.toNat, by omega⟩
  obtain ⟨n, rfl⟩ : ∃ n : Nat, b = n := ⟨b.toNat, by omega⟩
  have hm : m < 16 := by omega
  have hn : n < 16 := by omega
  have h : ∀ m : Nat, m < 16 → ∀ n : Nat, n < 16 → 0 ≤ bits .xor .u8 (m : Int) (n : Int) ∧ bits .xor .u8 (m : Int) (n : Int) < 16 := by decide
  exact h m hm n hn
theorem SlR.at0 {w : World} {lo : Option Addr} {n c : Nat} {u : Value} {r : List Value} (h : SlR w (.slice lo n c) (u :: r)) : ∃ a, lo = some a ∧ w.cell? (a.add 0) = some u := by
  obtain ⟨ao, c', hv, _, _, hx⟩ := h
  cases hv
  exact hx 0 u rfl
theorem and15n {z : Int} (h : 0 ≤ z ∧ z ≤ 255) : bits BinOp.and IntKind.u8 z 15 = z % 16 := bits_mask .u8 8 (by decide) wraps_u8 4 (by decide) z h.1 (by omega)
theorem SlR.at' {w : World} {lo : Option Addr} {n c : Nat} {cs : List Value} (h : SlR w (.slice lo n c) cs) {m : Nat} {u : Value} (hm : cs[m]? = some u) : ∃ a, lo = some a ∧ w.cell? (a.add m) = some u := by
  obtain ⟨ao, c', hv, _, _, hx⟩ := h
  cases hv
  exact hx m u hm
theorem sumIdx (x n : Int) (h0 : 0 ≤ n) (h1 : n < 16) : ∃ p : Nat, bits .xor .u8 (x % 16) n = (p : Int) ∧ p < 16 := by
  have := xor_nib (a := x % 16) (b := n) (by omega) (by omega) h0 h1
  exact ⟨(bits .xor .u8 (x % 16) n).toNat, by omega, by omega⟩
theorem sumUp_at {p : Nat} (h : p < 16) : (sumUp 16).toList[p]? = some (.int .u32 (sumTab p)) := by
  unfold sumUp
  rw [List.getElem?_map, List.getElem?_range h]
  simp [h]
set_option maxHeartbeats 400000 in
theorem sumOf_any {w : World} {lv u : Value} {xs : List Int} (hl : SlR w lv [u]) (hu : SlR w u (u8s xs)) (h8 : U8 xs) : Calls Tryz.prog 153 #[lv] w fun e w' => e = .returned (.int .u32 (bits .xor .u32 IntKind.u32.max (sumAll xs))) ∧ Below w.heap.size w w' := by
  obtain ⟨lo, lc, rfl, hl1, hl2⟩ := id hl.form
  simp only [List.length_cons, List.length_nil] at hl hl1
  obtain ⟨la, rfl, hc⟩ := hl.at0
  have H := Lib.hid hl
  have HU := Lib.hid hu
  have H8 := Lib.hid h8
  clear hl hu h8 hc
  go_enter Tryz.func153, Tryz.ntmps153
  go_wp2_with fail
  refine (stable_any w).mono ?_
  rintro e w2 ⟨rfl, h2⟩
  have hs := (SepW.nil h2).newBlk (Array.replicate 16 (.int .u32 0)) 233
  have HS := Lib.hid hs
  have HS2 := Lib.hid ((SepW.nil h2).newBlk (sumUp 16) 233)
  clear hs h2
  go_wp2_with (first
        | (refine wpList_store_rowTo rfl 233 (.tmp 3) (.tmp 11) rfl rfl w2.heap.size (sumUp 16) rfl rfl 233 _ (HS.out.get 0 rfl) (by kernel_rfl) rfl (by kernel_rfl) ?_)
        | fail)
  rw [setRow_alloc]
  clear HS
  generalize w2.heap.size = TB at *
  generalize w2.alloc (.cells (sumUp 16) 233) = W2 at *
  go_loopw [14, 4] (fun i x wr => ∃ k : Nat, k ≤ 1 ∧ i = .int .i64 k ∧ x = .int .u32 (if k = 0 then 4294967295 else sumAll xs) ∧ SepW w wr [obBlk TB (.cells (sumUp 16) 233)]) (fun i _ _ => 1 - (intOf i).toNat)
  case atStart => exact ⟨0, by omega, rfl, rfl, HS2.out⟩
  case round =>
    clear HS2
    obtain ⟨k, hk, rfl, rfl, hs⟩ := hrel
    have HS := Lib.hid hs
    clear hs
    rcases (by omega : k = 0 ∨ k = 1) with rfl | rfl
    · obtain ⟨_, hla, hc⟩ := H.out.at0
      cases hla
      have hc := (HS.out.below.cell (World.block_lt_of_cell? w _ hc)).trans hc
      obtain ⟨uo, uc, rfl, hu1, hu2⟩ := id HU.out.form
      simp only [List.length_map] at hu1
      rw [show la.add 0 = la by simp [Addr.add]] at hc
      simp only [List.length_map] at HU
      go_wp2_with fail
      go_loopw [20, 4] (fun j x wr' => ∃ m : Nat, m ≤ xs.length ∧ j = .int .i64 m ∧ x = .int .u32 ((xs.take m).foldl sumByte 4294967295) ∧ SepW w wr' [obBlk TB (.cells (sumUp 16) 233)]) (fun j _ _ => xs.length - (intOf j).toNat)
      case atStart => exact ⟨0, by omega, rfl, rfl, HS.out⟩
      case round =>
        clear HS hc
        obtain ⟨m, hm, rfl, rfl, hs⟩ := hrel
        have HS := Lib.hid hs
        clear hs
        by_cases hlt : m < xs.length
        · have hlt2 : (m : Int) < (xs.length : Int) := by omega
          obtain ⟨c, hcx⟩ : ∃ c, xs[m]? = some c := ⟨_, List.getElem?_eq_getElem hlt⟩
          have h255 := H8.out c (List.mem_of_getElem? hcx)
          obtain ⟨_, hua, hcm⟩ := (HU.out.below HS.out.below (Nat.le_refl _)).at' (m := m) (u := .int .u8 c) (by simp [hcx])
          subst hua
          have a15 := and15n h255
          have hw16 : c / 16 < 16 := by omega
          have hw0 : 0 ≤ c / 16 := by omega
          go_wp2_with fail
          have hfold : (xs.take (m + 1)).foldl sumByte 4294967295 = sumByte ((xs.take m).foldl sumByte 4294967295) c := by
            rw [List.take_add_one, hcx]; simp
          generalize (xs.take m).foldl sumByte 4294967295 = X at *
          have i0 : ∀ w : World, (Instr.index 235 (.agg #[.int .u8 (c % 16), .int .u8 (c / 16)]) (.int .i64 0)).run Tryz.prog w = .ok (.int .u8 (c % 16)) w := fun _ => by kernel_rfl
          have i1 : ∀ w : World, (Instr.index 235 (.agg #[.int .u8 (c % 16), .int .u8 (c / 16)]) (.int .i64 1)).run Tryz.prog w = .ok (.int .u8 (c / 16)) w := fun _ => by kernel_rfl
          have HF := Lib.hid hfold
          have HX := Lib.hid hcx
          clear hfold hcx hcm
          go_loopw [29, 4] (fun j x wr' => ∃ n : Nat, n ≤ 2 ∧ j = .int .i64 n ∧ x = .int .u32 (if n = 0 then X else if n = 1 then sumNib X (c % 16) else sumByte X c) ∧ SepW w wr' [obBlk TB (.cells (sumUp 16) 233)]) (fun j _ _ => 2 - (intOf j).toNat)
          case atStart => exact ⟨0, by omega, rfl, rfl, HS.out⟩
          case round =>
            clear HS
            obtain ⟨n, hn, rfl, rfl, hs⟩ := hrel
            have HS := Lib.hid hs
            clear hs
            rcases (by omega : n = 0 ∨ n = 1 ∨ n = 2) with rfl | rfl | rfl
            · obtain ⟨p, hp, hp16⟩ := sumIdx X (c % 16) (by omega) (by omega)
              have hcp := (HS.out.blk 0 rfl p _ (sumUp_at hp16)).1
              have hp2 : (p : Int) < 16 := by omega
              have hnb : sumNib X (c % 16) = bits .xor .u32 (X / 16) (sumTab p) := by unfold sumNib; rw [hp]; rfl
              have HN := Lib.hid hnb.symm
              clear hnb
              go_wp2_with fail
              go_roundw
              case rel => exact ⟨1, by omega, by go_num, by simp [HN.out], HS.out⟩
              case measure => simp [intOf]
            · obtain ⟨p, hp, hp16⟩ := sumIdx (sumNib X (c % 16)) (c / 16) (by omega) (by omega)
              have hcp := (HS.out.blk 0 rfl p _ (sumUp_at hp16)).1
              have hp2 : (p : Int) < 16 := by omega
              have hnb : sumByte X c = bits .xor .u32 (sumNib X (c % 16) / 16) (sumTab p) := by unfold sumByte; rw [show sumNib (sumNib X (c % 16)) (c / 16) = bits .xor .u32 (sumNib X (c % 16) / 16) (sumTab (bits .xor .u8 (sumNib X (c % 16) % 16) (c / 16)).toNat) from rfl, hp]; rfl
              have HN := Lib.hid hnb.symm
              clear hnb
              go_wp2_with fail
              go_roundw
              case rel => exact ⟨2, by omega, by go_num, by simp [HN.out], HS.out⟩
              case measure => simp [intOf]
            · go_wp2_with fail
              go_roundw
              case rel => exact ⟨m + 1, by omega, by go_num, by rw [HF.out], HS.out⟩
              case measure => simp [intOf]; omega
        · have : m = xs.length := by omega
          subst this
          have hxx : xs.take xs.length = xs := List.take_length
          go_wp2_with fail
          go_roundw
          case rel => exact ⟨1, by omega, by go_num, by simp [sumAll], HS.out⟩
          case measure => simp [intOf]
    · go_wp2_with fail
      go_ret
      exact ⟨rfl, HS.out.below⟩
def sum4 (xs : List Int) : List Int := [bits .xor .u32 IntKind.u32.max (sumAll xs) / 16777216 % 256, bits .xor .u32 IntKind.u32.max (sumAll xs) / 65536 % 256, bits .xor .u32 IntKind.u32.max (sumAll xs) / 256 % 256, bits .xor .u32 IntKind.u32.max (sumAll xs) % 256]
theorem sum4_u8 (xs : List Int) : U8 (sum4 xs) := by
  intro x hx
  unfold sum4 at hx
  simp only [List.mem_cons, List.not_mem_nil, or_false] at hx
  omega
theorem sealed_any {w : World} {v : Value} {xs : List Int} (h : SlR w v (u8s xs)) (h8 : U8 xs) (hl : xs.length ≤ 1000000) : Calls Tryz.prog 138 #[v] w fun e w' => ∃ v', e = .returned v' ∧ w'.ownsRow w.heap.size 5 1 v' (xs.length + 4) (u8s (xs ++ sum4 xs)) ∧ Below w.heap.size w w' := by
  obtain ⟨ao, ac, rfl, _, _⟩ := id h.form
  simp only [List.length_map] at h
  have hla := below_lit w (.cells #[.slice ao xs.length ac] 27)
  have hnew : (w.alloc (.cells #[.slice ao xs.length ac] 27)).heap[w.heap.size]? = some (.cells #[.slice ao xs.length ac] 27 (0, 0)) := heap_alloc_new w _
  have hrow : SlR (w.alloc (.cells #[.slice ao xs.length ac] 27)) (.slice (some ⟨w.heap.size, 0, none⟩) 1 1) [.slice ao xs.length ac] :=
    ⟨_, 1, rfl, by simp, by unfold maxLen; omega, fun i u hi => ⟨_, rfl, World.news_of_block hnew i u (by simpa using hi)⟩⟩
  have HOf := Lib.hid (sumOf_any hrow (h.below hla (Nat.le_refl _)) h8)
  have HLa := Lib.hid hla
  have H := Lib.hid h
  have H8 := Lib.hid h8
  clear h h8 hrow hnew hla
  go_enter Tryz.func138, Tryz.ntmps138
  go_wp2_with fail
  refine HOf.out.mono ?_
  rintro e w2 ⟨rfl, h2⟩
  have HB2 := Lib.hid (HLa.out.trans (h2.mono HLa.out.size))
  clear h2
  go_wp2_with fail
  refine (cloneB_any (H.out.below HB2.out (Nat.le_refl _)) (by omega)).mono ?_
  rintro e w3 ⟨v', rfl, hown, hb3⟩
  have hs4 := lit_u8 w3 (sum4 xs) 5 (0, 0) (by simp [sum4])
  have HL4 := Lib.hid hs4
  have HO := Lib.hid ((hown.weaken (base' := w.heap.size) HB2.out.size).alloc (.cells (u8s (sum4 xs)).toArray 5 (0, 0)))
  have HB3 := Lib.hid (((HB2.out.trans (hb3.mono HB2.out.size))).alloc (Nat.le_trans HB2.out.size hb3.size) (.cells (u8s (sum4 xs)).toArray 5 (0, 0)))
  obtain ⟨i0, hi, hz0, hz1, hz2⟩ := info_parts Tryz.byteInfo
  have h4 : (sum4 xs).length = 4 := rfl
  clear hown hb3 hs4
  go_wp2_with (first
   | (at_builtin; (refine wpList_appSrc rfl (.tmp 8) (.tmp 20) 27 rfl w.heap.size 5 i0 (.int .u8 0) 1 Tryz.underlying27 hi hz0 hz1 hz2 rfl (by decide) rfl rfl HO.out HL4.out (u8s_one _) (by simp [h4]; omega) HB3.out.size ?_); intro v2 w4 ho4 hb4 hg4 hk4 hn4)
   | fail)
  go_ret
  refine ⟨v2, rfl, ?_, HB3.out.trans hb4⟩
  rw [← List.map_append] at ho4
  exact ho4
/-- Rows of bytes: are they the same? -/
theorem eqB_any {w : World} {u v : Value} {xs ys : List Int} (hu : SlR w u (u8s xs)) (hv : SlR w v (u8s ys)) : Calls Tryz.prog 162 #[u, v] w fun e w' => e = .returned (.bool (xs == ys)) ∧ Drew w w' := by
  obtain ⟨ao, ac, rfl, hxl1, hxl2⟩ := id hu.form
  obtain ⟨bo, bc, rfl, _, _⟩ := id hv.form
  have hxl : xs.length ≤ 9223372036854775807 := by simp only [List.length_map] at hxl1; omega
  clear hxl1 hxl2
  simp only [List.length_map] at hu hv
  by_cases hne : xs.length = ys.length
  · simp only [List.length_map]
    rw [← hne] at hv
    rw [← hne]
    have HU := Lib.hid hu
    have HV := Lib.hid hv
    have HE := Lib.hid hne
    clear hu hv hne
    go_enter Tryz.func162, Tryz.ntmps162
    go_wp2_with fail
    go_loopw [13] (fun i wr => ∃ k : Nat, k ≤ xs.length ∧ i = .int .i64 k ∧ xs.take k = ys.take k ∧ Drew w wr) (fun i _ => xs.length - (intOf i).toNat)
    case atStart => exact ⟨0, by omega, rfl, by simp, Drew.refl w⟩
    case round =>
      obtain ⟨k, hk, rfl, ht, hd⟩ := hrel
      have HT := Lib.hid ht
      have HD := Lib.hid hd
      clear ht hd
      by_cases hlt : k < xs.length
      · have hlt2 : (k : Int) < (xs.length : Int) := by omega
        obtain ⟨c, hc⟩ : ∃ c, xs[k]? = some c := ⟨_, List.getElem?_eq_getElem hlt⟩
        obtain ⟨d, hd⟩ : ∃ d, ys[k]? = some d := ⟨_, List.getElem?_eq_getElem (by have := HE.out; omega)⟩
        obtain ⟨a1, rfl, c1⟩ := (HU.out.drew HD.out).at' (m := k) (u := .int .u8 c) (by simp [hc])
        obtain ⟨a2, rfl, c2⟩ := (HV.out.drew HD.out).at' (m := k) (u := .int .u8 d) (by simp [hd])
        have HC := Lib.hid hc
        have HDd := Lib.hid hd
        clear hc hd
        by_cases hcd : c = d
        · subst hcd
          have hee : (c != c) = false := by simp
          go_wp2_with fail
          go_quiet (fail)
          go_wp2_with fail
          go_roundw
          case rel => exact ⟨k + 1, by omega, by go_num, by rw [List.take_add_one, List.take_add_one, HT.out, HC.out, HDd.out], HD.out.drewN nq⟩
          case measure => simp [intOf]; omega
        · have hee : (c != d) = true := bne_iff_ne.2 hcd
          have HQ := Lib.hid hcd
          clear hcd
          go_wp2_with fail
          go_quiet (fail)
          go_wp2_with fail
          go_ret
          have hxy : (xs == ys) = false := beq_eq_false_iff_ne.2 (by
            intro e
            have h1 := HC.out
            rw [e, HDd.out] at h1
            cases h1
            exact HQ.out rfl)
          rw [hxy]
          exact ⟨rfl, HD.out.drewN nq⟩
      · have : k = xs.length := by omega
        subst this
        go_wp2_with fail
        go_ret
        have hxy : xs = ys := by
          have h1 := HT.out
          rw [List.take_length, HE.out, List.take_length] at h1
          exact h1
        rw [hxy]
        exact ⟨by simp, HD.out⟩
  · simp only [List.length_map]
    have HN := Lib.hid hne
    have hq : ((xs.length : Int) == (ys.length : Int)) = false := beq_eq_false_iff_ne.2 (by omega)
    have hxy : (xs == ys) = false := beq_eq_false_iff_ne.2 (by intro e; rw [e] at hne; exact hne rfl)
    rw [hxy]
    clear hu hv hne hxy
    go_enter Tryz.func162, Tryz.ntmps162
    go_wp2_with fail
    go_ret
    exact ⟨rfl, Drew.refl w⟩
def sumRight (xs : List Int) : Bool := decide (4 ≤ xs.length) && (xs.take (xs.length - 4) ++ sum4 (xs.take (xs.length - 4)) == xs)
theorem right_any {w : World} {v : Value} {xs : List Int} (h : SlR w v (u8s xs)) (h8 : U8 xs) (h4 : 4 ≤ xs.length) (hl : xs.length ≤ 1000000) : Calls Tryz.prog 154 #[v] w fun e w' => e = .returned (.bool (xs.take (xs.length - 4) ++ sum4 (xs.take (xs.length - 4)) == xs)) ∧ Below w.heap.size w w' := by
  obtain ⟨ao, ac, rfl, hac, _⟩ := id h.form
  simp only [List.length_map] at h hac
  obtain ⟨n, hn⟩ : ∃ n, xs.length = n + 4 := ⟨xs.length - 4, by omega⟩
  have hnn : xs.length - 4 = n := by omega
  rw [hnn]
  have ht := h.take n (by simp; omega)
  rw [← List.map_take] at ht
  have htl : (xs.take n).length = n := by simp; omega
  have HSe := Lib.hid (sealed_any (v := .slice ao n n) (xs := xs.take n) (w := w) (by simpa using ht) (fun x hx => h8 x (List.mem_of_mem_take hx)) (by omega))
  simp only [List.length_map]
  have H := Lib.hid h
  have HN := Lib.hid hn
  have HTl := Lib.hid htl
  have e4 : IntKind.i64.wrap ((xs.length : Int) - 4) = (n : Int) := by rw [hn]; rw [show (((n + 4 : Nat) : Int) - 4) = (n : Int) by omega]; exact IntWalk.i64_in _ (by constructor <;> omega)
  have g0 : (0 : Int) ≤ (n : Int) := by omega
  have g1 : (n : Int) ≤ (ac : Int) := by omega
  have g2 : n ≤ ac := by omega
  clear h hn ht htl h8 hnn
  go_enter Tryz.func154, Tryz.ntmps154
  go_wp2_with fail
  refine HSe.out.mono ?_
  rintro e w2 ⟨v', rfl, hown, hb2⟩
  have HB2 := Lib.hid hb2
  have HEq := Lib.hid (eqB_any (SlR.of_own hown) (H.out.below hb2 (Nat.le_refl _)))
  clear hown hb2
  go_wp2_with fail
  refine HEq.out.mono ?_
  rintro e w3 ⟨rfl, hd⟩
  have HD := Lib.hid (HB2.out.trans hd.below)
  clear hd
  go_wp2_with fail
  go_ret
  exact ⟨rfl, HD.out⟩
end Go.Proofs.YtgmdedkingampaaGreat
