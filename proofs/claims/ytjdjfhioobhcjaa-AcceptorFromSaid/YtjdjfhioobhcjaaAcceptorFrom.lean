/-
  AcceptorFrom: of any slots voted for, any slot from which votes are asked for: votes are told from there on, rising, each as it was voted last, and once more the same. No condition: every input.
-/
import Derived.Test.YtjdjfhioobhcjaaAccL
import Derived.Test.YtjdjfhioobhcjaaFrame
namespace Go.Proofs.Ytjdjfhioobhcjaa
open Go.ChangeShapes Go.WideShapes Go.ChangeAt Go.RowKit Go.Maps
set_option maxRecDepth 100000

/-- One more than the place of a slot's last vote; nought: none. -/
def lastF (xs : List Int) : Nat → Int → Nat
  | 0, _ => 0
  | i + 1, a => if a = (xs.getD i 0) % 16 then i + 1 else lastF xs i a
theorem lastF_le (xs : List Int) (i : Nat) (a : Int) : lastF xs i a ≤ i := by
  induction i with
  | zero => exact Nat.le_refl _
  | succ i ih => unfold lastF; split <;> omega
theorem lastF_in {xs : List Int} {i : Nat} {a : Int} (h : lastF xs i a ≠ 0) : 0 ≤ a ∧ a < 16 := by
  induction i with
  | zero => exact absurd rfl h
  | succ i ih =>
    unfold lastF at h
    split at h
    · omega
    · exact ih h
def voteL (xs : List Int) (i : Nat) (a : Int) : Option Vt := if lastF xs i a = 0 then none else some ⟨a, ((lastF xs i a - 1 : Nat) : Int), [((lastF xs i a - 1 : Nat) : Int)]⟩
def stL (xs : List Int) (i : Nat) : AS := ⟨((i - 1 : Nat) : Int), 0, voteL xs i⟩
theorem stL_zero (xs : List Int) : stL xs 0 = emptyAS := rfl
theorem stL_step {xs : List Int} {i : Nat} {x : Int} (h : xs[i]? = some x) : accE (stL xs i) ⟨x % 16, i, [(i : Int)]⟩ = 0 ∧ accR (stL xs i) ⟨x % 16, i, [(i : Int)]⟩ = stL xs (i + 1) ∧ ∀ a, lastF xs (i + 1) a = if a = x % 16 then i + 1 else lastF xs i a := by
  have hg : xs.getD i 0 = x := by rw [List.getD_eq_getElem?_getD, h]; rfl
  have hs : ∀ a, lastF xs (i + 1) a = if a = x % 16 then i + 1 else lastF xs i a := fun a => by
    rw [lastF, hg]
  have e : accE (stL xs i) ⟨x % 16, i, [(i : Int)]⟩ = 0 := by
    unfold accE stL
    simp only
    rw [if_neg (by omega), if_neg (by omega)]
  refine ⟨e, ?_, hs⟩
  unfold accR
  rw [if_pos e]
  unfold putA stL
  simp only
  congr 1
  funext a
  unfold voteL
  rw [hs a]
  by_cases ea : a = x % 16
  · rw [if_pos ea, if_pos ea, if_neg (by omega)]
    subst ea
    simp
  · rw [if_neg ea, if_neg ea]
/-- The votes that are told. -/
def pL (xs : List Int) (n : Nat) (k : Nat) : Bool := decide (lastF xs xs.length (k : Int) ≠ 0) && decide (n ≤ k)
def nL (xs : List Int) (n : Nat) (k : Nat) : Nat := ((List.range k).filter (pL xs n)).length
def gL (xs : List Int) (k : Nat) : Vt := ⟨(k : Int), ((lastF xs xs.length (k : Int) - 1 : Nat) : Int), [((lastF xs xs.length (k : Int) - 1 : Nat) : Int)]⟩
theorem told_L {xs : List Int} {n : Nat} {ks : List Int} (h : IsKeys (voteL xs xs.length) ks) : votL (voteL xs xs.length) ks n = ((List.range 16).filter (pL xs n)).map (gL xs) := by
  rw [votL_range (M := 16) h (fun x hx => by
    unfold voteL at hx
    split at hx
    · cases hx
    · rename_i hh; exact lastF_in hh)]
  have e1 : ∀ k : Nat, ((voteL xs xs.length (k : Int)).isSome && decide ((n : Int) ≤ (k : Int))) = pL xs n k := fun k => by
    unfold voteL pL
    by_cases hk : lastF xs xs.length (k : Int) = 0
    · rw [if_pos hk]; simp [hk]
    · rw [if_neg hk]; simp [hk]
  simp only [e1]
  refine List.map_congr_left fun k hk => ?_
  have hp := (List.mem_filter.1 hk).2
  unfold pL at hp
  simp only [Bool.and_eq_true, decide_eq_true_eq] at hp
  unfold voteL
  rw [if_neg hp.1]; rfl
theorem told_at {xs : List Int} {n : Nat} {k : Nat} (hk : k < 16) (hp : pL xs n k = true) : (((List.range 16).filter (pL xs n)).map (gL xs))[nL xs n k]? = some (gL xs k) := by
  rw [List.getElem?_map, nL, filter_at _ hk hp]; rfl
theorem told_len (xs : List Int) (n : Nat) : (((List.range 16).filter (pL xs n)).map (gL xs)).length = nL xs n 16 := by rw [List.length_map]; rfl
theorem told_lt {xs : List Int} {n : Nat} {k : Nat} (hk : k < 16) (hp : pL xs n k = true) : nL xs n k < nL xs n 16 := by
  have := (List.getElem?_eq_some_iff.1 (told_at hk hp)).1
  rwa [told_len] at this
theorem nL_le (xs : List Int) (n : Nat) (k : Nat) : nL xs n k ≤ k := by
  unfold nL
  have := List.length_filter_le (pL xs n) (List.range k)
  simpa using this
theorem nL_start (xs : List Int) (n : Nat) : nL xs n n = 0 := by
  unfold nL
  rw [List.length_eq_zero_iff, List.filter_eq_nil_iff]
  intro k hk
  have := List.mem_range.1 hk
  unfold pL
  simp; intro _; omega

theorem Try.intInfo : (Try.prog.info? 3).map (fun i => (i.zero, i.size, i.bytes)) = some (some (.int .i64 0), 1, 8) := by kernel_rfl
set_option maxHeartbeats 4000000 in
theorem acceptorFrom_walk {W : World} {v0 : Value} {xs : List Int} {fr xo : Int} (h0 : SlR W v0 (u8s xs)) (w0 : ∀ x ∈ xs, (Lit.int .u8 x).wf = true) (wl : (Lit.int .u8 fr).wf = true) (wx : (Lit.int .u8 xo).wf = true) :
    Calls Try.prog 4 #[v0, .int .u8 fr, .int .u8 xo] W fun e W' => e = .returned (.bool true) ∧ Below W.heap.size W W' := by
  simp [Lit.wf, IntKind.min, IntKind.max, IntKind.signed, IntKind.bits] at wl wx
  have HU := Lib.hid (u8_of_wf w0)
  have H0 := Lib.hid h0
  obtain ⟨j0, hj, hy0, hy1, hy2⟩ := info_parts Try.intInfo
  obtain ⟨ao, ac, rfl, hac, ham⟩ := h0.form
  simp only [List.length_map] at *
  clear h0 w0
  by_cases hlen : xs.length ≤ 30
  rotate_left
  · have hli : (30 : Int) < (xs.length : Int) := by omega
    go_enter Try.func4, Try.ntmps4
    go_wp2_with fail
    refine (aawake_any W).mono ?_
    rintro e w1 ⟨rfl, hb1⟩
    have HB1 := Lib.hid hb1
    clear hb1
    go_wp2_with fail
    go_ret
    exact ⟨rfl, HB1.out⟩
  · have hli : decide ((30 : Int) < (xs.length : Int)) = false := decide_eq_false (by omega)
    have hmk : ∀ w : World, (Instr.makeSlice 42 (.int .i64 16) (.int .i64 16)).run Try.prog w = Result.ok (.slice (some ⟨w.heap.size, 0, none⟩) 16 16) (w.alloc (.cells (madeCells #[.int .i64 0] 16) 3)) := fun w => run_make_row (P := Try.prog) 42 3 j0 (.int .i64 0) Try.underlying42 hj hy0 hy1 rfl .i64 .i64 16 (by rw [hy2]; decide) (by decide) w
    go_enter Try.func4, Try.ntmps4
    go_wp2_with fail
    refine (aawake_any W).mono ?_
    rintro e w1 ⟨rfl, hb1⟩
    have HB1 := Lib.hid hb1
    clear hb1
    go_wp2_with fail
    refine ((SepW.nil HB1.out).accNew).mono ?_
    rintro e w2 ⟨b0, D0, rfl, hs2⟩
    have HS3 : Hid (SepW W (w2.alloc (.cells (madeCells #[.int .i64 0] 16) 3)) [obArr w2.heap.size 16 3 (fun j => .int .i64 (lastF xs 0 (j : Int) : Nat)), obAcc (.pointer (some ⟨b0, 0, none⟩)) D0 0 (stL xs 0)]) := Lib.hid (hs2.arrMade (.int .i64 0) 3 16)
    clear hs2 HB1
    go_wp2_with fail
    generalize w2.heap.size = LB at *
    clear hmk
    go_loopw [10] (fun i wr => ∃ (k : Nat) (D : Nat → Prop), k ≤ xs.length ∧ i = .int .i64 k ∧ SepW W wr [obArr LB 16 3 (fun j => .int .i64 (lastF xs k (j : Int) : Nat)), obAcc (.pointer (some ⟨b0, 0, none⟩)) D k (stL xs k)]) (fun i _ => xs.length - (intOf i).toNat)
    case atStart => exact ⟨0, D0, by omega, rfl, HS3.out⟩
    case round =>
      clear HS3
      obtain ⟨k, D, hk, rfl, hsep⟩ := hrel
      have HSk := Lib.hid hsep
      clear hsep
      by_cases hlt : k < xs.length
      · have hki : (k : Int) < (xs.length : Int) := by omega
        obtain ⟨x, hx⟩ : ∃ x, xs[k]? = some x := ⟨_, List.getElem?_eq_getElem hlt⟩
        obtain ⟨xo', xc, hxe, _, _, hxx⟩ := (H0.out.below HSk.out.below (Nat.le_refl _))
        simp only [List.length_map] at hxe
        cases hxe
        obtain ⟨xa, rfl, hxm⟩ := hxx k (.int .u8 x) (by rw [List.getElem?_map, hx]; rfl)
        have hxb := HU.out x (List.mem_of_getElem? hx)
        have hand := and15 hxb
        obtain ⟨hst1, hst2, hst3⟩ := stL_step hx
        obtain ⟨j, hj⟩ : ∃ j : Nat, (j : Int) = x % 16 := ⟨(x % 16).toNat, by omega⟩
        rw [← hj] at hand hst1 hst2 hst3
        have HSt1 := Lib.hid hst1
        have HSt2 := Lib.hid hst2
        have HSt3 := Lib.hid hst3
        have hj16 : j < 16 := by omega
        have hj0 : (0 : Int) ≤ (j : Int) := by omega
        have hji : (j : Int) < 16 := by omega
        have hk0 : (0 : Int) ≤ (k : Int) := by omega
        have hwk : IntKind.u64.wrap (k : Int) = (k : Int) := IntWalk.u64_in _ (by omega)
        have hwb : IntKind.u8.wrap (k : Int) = (k : Int) := IntWalk.u8_in _ (by omega)
        have HSa := Lib.hid (HSk.out.new (below_lit wr (.cells #[.int .u8 (k : Int)] 5)) (obBlk_good wr.heap.size (.cells #[.int .u8 (k : Int)] 5)) (heap_alloc_new wr _) (fun q hq => by rw [show q = wr.heap.size from hq]; exact Nat.le_refl _))
        clear hj hxx hx hst1 hst2 hst3
        go_wp2_with fail
        refine (HSa.out.accept 2 rfl (v := ⟨j, k, [(k : Int)]⟩) (slr_one wr k _) (by show U1 (j : Int); constructor <;> omega) (by show U1 (k : Int); constructor <;> omega) (by intro x hx; simp at hx; omega) (by simp) (by omega)).mono ?_
        rintro e w4 ⟨rfl, D', hs4⟩
        rw [HSt1.out]
        rw [HSt2.out] at hs4
        generalize wr.heap.size = VB at *
        have hvb : w4.heap[VB]? = some (.cells #[.int .u8 (k : Int)] 5 (0, 0)) := hs4.get 0 rfl
        have p1 : w4.cell? ⟨VB, 0, none⟩ = some (.int .u8 (k : Int)) := World.news_of_block hvb 0 _ rfl
        have p2 : w4.frozen? ⟨VB, 0, none⟩ = false := by simp [World.frozen?, hvb]
        have p3 : ∀ u : Value, (w4.setCell ⟨VB, 0, none⟩ u).frozen? ⟨VB, 0, none⟩ = false := fun u => by
          have := heap_setCell_same w4 VB 0 _ _ u hvb
          simp [World.frozen?, this]
        have hset : ∀ u : Value, SepW W (w4.setCell ⟨VB, 0, none⟩ u) [obArr LB 16 3 (fun j => .int .i64 (lastF xs k (j : Int) : Nat)), obAcc (.pointer (some ⟨b0, 0, none⟩)) D' (k + 1) (stL xs (k + 1))] := fun u => by
          have h1 := hs4.set 0 rfl (Keep.setCell (S := fun q => q = VB) (Keep.refl _ _) (p := ⟨VB, 0, none⟩) (Or.inl rfl) u) (obBlk_good VB (.cells #[u] 5)) (by have := heap_setCell_same w4 VB 0 _ _ u hvb; exact this) (fun q hq => Or.inl hq)
          exact h1.sub (List.sublist_cons_self _ _)
        have f1 : ∀ u, (w4.setCell ⟨VB, 0, none⟩ u).cell? ⟨LB, j, none⟩ = some (.int .i64 (lastF xs k (j : Int) : Nat)) := fun u => ((hset u).arrCell 0 rfl hj16).1
        have f2 : w4.frozen? ⟨LB, j, none⟩ = false := (hs4.arrCell 1 rfl hj16).2
        have HSet := Lib.hid hset
        have hwk1 : IntKind.i64.wrap ((k : Int) + 1) = (k : Int) + 1 := IntWalk.i64_in _ (by omega)
        clear hs4 HSa hset hvb p3
        go_wp2_with fail
        have HS5 := Lib.hid ((HSet.out (.int .u8 (bits BinOp.xor IntKind.u8 (k : Int) xo))).arrSet 0 rfl hj16 (.int .i64 ((k : Int) + 1)))
        go_roundw
        case rel =>
          refine ⟨k + 1, D', by omega, by go_num, ?_⟩
          have e1 : obArr LB 16 3 (fun i => if i = j then .int .i64 ((k : Int) + 1) else .int .i64 (lastF xs k (i : Int) : Nat)) = obArr LB 16 3 (fun i => .int .i64 (lastF xs (k + 1) (i : Int) : Nat)) := obArr_congr fun i hi => by
            rw [HSt3.out (i : Int)]
            by_cases h : i = j
            · subst h; simp
            · rw [if_neg h, if_neg (by omega)]
          rw [← e1]
          exact HS5.out
        case measure => simp [intOf]; omega
      · have hkl : k = xs.length := by omega
        have hkd : decide ((k : Int) < (xs.length : Int)) = false := decide_eq_false (by omega)
        subst hkl
        have hand := and15 wl
        obtain ⟨n, hn⟩ : ∃ n : Nat, (n : Int) = fr % 16 := ⟨(fr % 16).toNat, by omega⟩
        rw [← hn] at hand
        have hn16 : (n : Int) < 16 := by omega
        have hn0 : (0 : Int) ≤ (n : Int) := by omega
        have hwn : IntKind.u64.wrap (n : Int) = (n : Int) := IntWalk.u64_in _ (by omega)
        have hwi : IntKind.i64.wrap (n : Int) = (n : Int) := IntWalk.i64_in _ (by omega)
        have hlen30 : xs.length < 50 := by omega
        have hTL : ∀ ks, IsKeys (voteL xs xs.length) ks → votL (voteL xs xs.length) ks (n : Int) = ((List.range 16).filter (pL xs n)).map (gL xs) := fun ks h => told_L h
        have hLa := fun (k : Nat) (h1 : k < 16) (h2 : pL xs n k = true) => told_at h1 h2
        have hLt := fun (k : Nat) (h1 : k < 16) (h2 : pL xs n k = true) => told_lt h1 h2
        have hLl := told_len xs n
        generalize ((List.range 16).filter (pL xs n)).map (gL xs) = L at *
        have HTL := Lib.hid hTL
        have HLa := Lib.hid hLa
        have HLt := Lib.hid hLt
        have HLl := Lib.hid hLl
        have hnn : ((L.length : Int) != (L.length : Int)) = false := by simp
        clear hn hlt hk HU H0 hli hac ham hTL hLa hLt hLl
        go_wp2_with fail
        refine (HSk.out.prepOk 1 rfl (x := 99) (fr := (n : Int)) (by show ((xs.length - 1 : Nat) : Int) ≤ 99; omega) (by constructor <;> decide) hlen30).mono ?_
        rintro e w6 ⟨ks, ro, rc, vs, hks, rfl, hs6⟩
        have hL : votL (stL xs xs.length).l ks (n : Int) = L := HTL.out ks hks
        rw [hL] at hs6 ⊢
        have HS6 : Hid (SepW W w6 [obVts (.slice ro L.length rc) 39 vs L, obArr LB 16 3 (fun j => .int .i64 (lastF xs xs.length (j : Int) : Nat)), obAcc (.pointer (some ⟨b0, 0, none⟩)) D xs.length ⟨99, 0, voteL xs xs.length⟩]) := Lib.hid hs6
        clear hs6 hks hL HSk
        go_wp2_with fail
        refine (HS6.out.prepOk 2 rfl (x := 99) (fr := (n : Int)) (by show (99 : Int) ≤ 99; omega) (by constructor <;> decide) hlen30).mono ?_
        rintro e w7 ⟨ks2, ro2, rc2, vs2, hks, rfl, hs7⟩
        have hL : votL (⟨99, 0, voteL xs xs.length⟩ : AS).l ks2 (n : Int) = L := HTL.out ks2 hks
        rw [hL] at hs7 ⊢
        have HS7 : Hid (SepW W w7 [obVts (.slice ro L.length rc) 39 vs L, obArr LB 16 3 (fun j => .int .i64 (lastF xs xs.length (j : Int) : Nat))]) := Lib.hid ((hs7.sub (List.sublist_cons_self _ _)).sub (show [obVts (.slice ro L.length rc) 39 vs L, obArr LB 16 3 (fun j => .int .i64 (lastF xs xs.length (j : Int) : Nat))].Sublist [obVts (.slice ro L.length rc) 39 vs L, obArr LB 16 3 (fun j => .int .i64 (lastF xs xs.length (j : Int) : Nat)), obAcc (.pointer (some ⟨b0, 0, none⟩)) D xs.length ⟨99, 0, voteL xs xs.length⟩] from by simp))
        clear hs7 HS6 hL hks
        go_wp2_with fail
        go_loopw [19, 18] (fun i q wr => ∃ (k : Nat), n ≤ k ∧ k ≤ 16 ∧ i = .int .i64 k ∧ q = .int .i64 (nL xs n k : Nat) ∧ SepW W wr [obVts (.slice ro L.length rc) 39 vs L, obArr LB 16 3 (fun j => .int .i64 (lastF xs xs.length (j : Int) : Nat))]) (fun i _ _ => 16 - (intOf i).toNat)
        case atStart => exact ⟨n, by omega, by omega, rfl, by rw [nL_start]; rfl, HS7.out⟩
        case round =>
          clear HS7
          obtain ⟨k, hnk, hk, rfl, rfl, hsep⟩ := hrel
          have HSk := Lib.hid hsep
          clear hsep
          by_cases hlt : k < 16
          · have hki : (k : Int) < 16 := by omega
            have hwk : IntKind.u64.wrap (k : Int) = (k : Int) := IntWalk.u64_in _ (by omega)
            have hat0 : (0 : Int) ≤ (nL xs n k : Nat) := by omega
            have hnkl := nL_le xs n k
            have hsu : nL xs n (k + 1) = nL xs n k + (if pL xs n k then 1 else 0) := filter_succ (pL xs n) k
            have hk0 : (0 : Int) ≤ (k : Int) := by omega
            have hwq : IntKind.i64.wrap (((nL xs n k : Nat) : Int) + 1) = ((nL xs n k : Nat) : Int) + 1 := IntWalk.i64_in _ (by omega)
            obtain ⟨f1, f2⟩ := HSk.out.arrCell 1 rfl hlt
            rcases hq : lastF xs xs.length (k : Int) with _ | r
            · rw [hq] at f1
              have hpf : pL xs n k = false := by unfold pL; simp [hq]
              rw [hpf] at hsu
              simp only [Bool.false_eq_true, if_false, Nat.add_zero] at hsu
              have f1' : wr.cell? ⟨LB, k, none⟩ = some (.int .i64 0) := f1
              have HSv := Lib.hid hsu
              clear hsu hpf hq f1
              go_wp2_with fail
              go_roundw
              case rel => exact ⟨k + 1, by omega, by omega, by go_num, by rw [HSv.out], HSk.out⟩
              case measure => simp [intOf]; omega
            · have hrl := lastF_le xs xs.length (k : Int)
              rw [hq] at f1 hrl
              have hpf : pL xs n k = true := by unfold pL; simp [hq]; omega
              have hLk := HLa.out k hlt hpf
              have hge : gL xs k = ⟨(k : Int), (r : Int), [(r : Int)]⟩ := by unfold gL; rw [hq]; rfl
              rw [hge] at hLk
              have f1' : wr.cell? ⟨LB, k, none⟩ = some (.int .i64 ((r : Int) + 1)) := by rw [f1]; simp
              have hLt2 := HLt.out k hlt hpf
              have hLl := HLl.out
              rw [← hLl] at hLt2
              rw [hpf] at hsu
              simp only [if_true] at hsu
              have HSv := Lib.hid hsu
              have hv := (HSk.out.get 0 rfl : (obVts (.slice ro L.length rc) 39 vs L).inv wr)
              obtain ⟨ao', c', he, hc1, hc2, hvx⟩ := VtL.of_own hv.1 hv.2.1
              cases he
              obtain ⟨ra, sv, rfl, q0, q1, q2, hsv⟩ := hvx _ _ hLk
              obtain ⟨so, sc, rfl, hsc1, hsc2, hsx⟩ := hsv
              obtain ⟨sa, rfl, qx⟩ := hsx 0 (.int .u8 (r : Int)) rfl
              simp only at q0 q1
              have qx2 : wr.cell? sa = some (.int .u8 (r : Int)) := qx
              generalize nL xs n k = m at *
              have hmi : (m : Int) < (L.length : Int) := by omega
              have hmd : decide ((L.length : Int) ≤ (m : Int)) = false := decide_eq_false (by omega)
              have hmd2 : decide (L.length ≤ m) = false := decide_eq_false (by omega)
              have hmn : m < L.length := by omega
              have hr30 : (r : Int) < 30 := by omega
              have hr1 : IntKind.u64.wrap ((r : Int) + 1) = (r : Int) + 1 := IntWalk.u64_in _ (by omega)
              have hr2 : IntKind.u64.wrap (r : Int) = (r : Int) := IntWalk.u64_in _ (by omega)
              have hr3 : IntKind.i64.wrap (r : Int) = (r : Int) := IntWalk.i64_in _ (by omega)
              have hr4 : IntKind.u8.wrap (r : Int) = (r : Int) := IntWalk.u8_in _ (by omega)
              have hr5 : (r : Int) + 1 - 1 = (r : Int) := by omega
              have hr6 : ((r : Int) + 1 == 0) = false := by rw [beq_eq_false_iff_ne]; omega
              have hr0 : (0 : Int) ≤ (r : Int) := by omega
              clear hsu hpf hq hLk hLl hvx hv hsx hge f1 hrl hLt2 hnkl
              go_wp2_with fail
              go_quiet (fail)
              go_wp2_with fail
              go_roundw
              case rel => exact ⟨k + 1, by omega, by omega, by go_num, by rw [HSv.out]; rfl, by first | exact HSk.out | exact HSk.out.step (below_drewN (Below.refl _ _) _)⟩
              case measure => simp [intOf]; omega
          · have hk16 : k = 16 := by omega
            subst hk16
            have hkk : decide (((16 : Nat) : Int) < 16) = false := by decide
            have hLl := HLl.out
            rw [hLl]
            clear hk hlt
            go_wp2_with fail
            go_ret
            exact ⟨by first | rfl | simp, HSk.out.below⟩
theorem acceptorFrom_holds : Rows.AcceptorFromSaid :=
  OpenClaim.holds_of_wide 4 Try.f4 rfl rfl rfl rfl rfl rfl rfl ⟨rfl, rfl, rfl, rfl, rfl⟩ rfl rfl rfl rfl rfl (by kernel_rfl) Try.func4 (by kernel_rfl)
    (of_decide_eq_true (by kernel_rfl)) (by unfold Func.isWrapper; rw [if_neg (by decide +kernel)]; exact ⟨rfl, rfl⟩)
    (fun os started H enc _ => law_frame (C := Try.checked) (fn := Try.f4) (s := Rows.acceptorFromSpec) (tb := 4) Try.own started (by kernel_rfl) Try.func4 Try.laidOut rfl (by kernel_rfl) Try.underlying4 (by kernel_rfl)
      (fun ds hd => by match ds, hd with | [_, _, _], _ => exact ⟨rfl, rfl, rfl⟩)
      (ChangeSpec.witness6 (enc := enc) (C := Try.checked) false ⟨#[], #[.slice none 0 0, .int .u8 0, .int .u8 0], []⟩ 8 (by kernel_rfl) (by kernel_rfl) (by kernel_rfl) (by kernel_rfl))
      (fun W base args ds p hval0 hA0 _ => by
        have hval : ∀ (j : Nat) t v, Try.f4.params[j]? = some t → args[j]? = some v → Value.okWide Try.prog W .any base t v := hval0
        have hA : DataW.TrodAll enc Try.prog W 0 (fun _ => true) true Try.f4.params.toList args.toList ds p := hA0
        rw [Try.params4] at hA hval
        obtain ⟨v0, v1, v2, d0, d1, d2, p0, p1, p2, rfl, rfl, rfl, h0, h1, h2⟩ := trodAll_three hA
        obtain ⟨x0, hx0, wx0⟩ := arg_ints Try.underlying30 Try.underlying5 (by kernel_rfl) (hval 0 30 v0 rfl rfl) h0
        obtain ⟨x1, rfl, rfl, rfl, wx1⟩ := open_int Try.underlying5 (hval 1 5 v1 rfl rfl) h1
        obtain ⟨x2, rfl, rfl, rfl, wx2⟩ := open_int Try.underlying5 (hval 2 5 v2 rfl rfl) h2
        exact acceptorFrom_walk hx0 wx0 wx1 wx2))

end Go.Proofs.Ytjdjfhioobhcjaa
