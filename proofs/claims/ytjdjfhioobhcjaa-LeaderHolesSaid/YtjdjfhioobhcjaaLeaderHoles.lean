/-
  LeaderHoles: slots between, for which nobody voted, are proposed without bytes; none ahead of the first one, none behind the last one. No conditions.
-/
import Derived.Test.YtjdjfhioobhcjaaLeaX
import Derived.Test.YtjdjfhioobhcjaaAccL
namespace Go.Proofs.Ytjdjfhioobhcjaa
open Go.ChangeShapes Go.WideShapes Go.ChangeAt Go.RowKit Go.Maps
set_option maxRecDepth 100000

theorem snoc_ind {α : Type} {P : List α → Prop} (h0 : P []) (h1 : ∀ l a, P l → P (l ++ [a])) (l : List α) : P l := by
  have : ∀ r : List α, P r.reverse := by
    intro r
    induction r with
    | nil => exact h0
    | cons a r ih => rw [List.reverse_cons]; exact h1 _ _ ih
  have h := this l.reverse
  rwa [List.reverse_reverse] at h
/-- The slots that were voted for. -/
def hlS (xs : List Int) (k : Nat) : List Int := (xs.take k).map (· % 32)
theorem hlS_succ {xs : List Int} {k : Nat} {x : Int} (h : xs[k]? = some x) : hlS xs (k + 1) = hlS xs k ++ [x % 32] := by
  obtain ⟨h1, h2⟩ := List.getElem?_eq_some_iff.1 h
  unfold hlS
  rw [List.take_succ_eq_append_getElem h1, h2, List.map_append]
  rfl
theorem hlS_le {xs : List Int} {k : Nat} {a : Int} (h : a ∈ hlS xs k) : 0 ≤ a ∧ a < 32 := by
  obtain ⟨x, _, rfl⟩ := List.mem_map.1 h
  omega
def mkH (s : Int) : Vt := ⟨s, 2, [s, 1]⟩
def hlV (xs : List Int) (k : Nat) : List Vt := (hlS xs k).map mkH
theorem hlV_len (xs : List Int) (k : Nat) (h : k ≤ xs.length) : (hlV xs k).length = k := by unfold hlV hlS; simp; omega
theorem hlV_ok (xs : List Int) (k : Nat) : VtsOk (hlV xs k) := by
  intro v hv
  obtain ⟨s, hs, rfl⟩ := List.mem_map.1 hv
  obtain ⟨h0, h1⟩ := hlS_le hs
  refine ⟨⟨h0, by show s ≤ _; omega⟩, ⟨by show (0 : Int) ≤ 2; decide, by show (2 : Int) ≤ _; decide⟩, ?_, by show 2 ≤ _; decide⟩
  intro y hy
  have hy : y ∈ [s, 1] := hy
  simp at hy
  rcases hy with rfl | rfl
  · exact ⟨h0, by omega⟩
  · exact ⟨by decide, by decide⟩
theorem hl_kn (l : List Int) (A : LS) (hA : ∀ a, A.kn a = none) (a : Int) : ((l.map mkH).foldl addV A).kn a = if l.contains a then some (mkH a) else none := by
  revert a
  refine snoc_ind (P := fun l => ∀ a, ((l.map mkH).foldl addV A).kn a = if l.contains a then some (mkH a) else none) ?_ ?_ l
  · intro a; simp [hA]
  · intro l s ih a
    rw [List.map_append, List.foldl_append]
    simp only [List.map_cons, List.map_nil, List.foldl_cons, List.foldl_nil]
    have hs : ((l.map mkH).foldl addV A).kn s = if l.contains s then some (mkH s) else none := ih s
    generalize (l.map mkH).foldl addV A = B at *
    unfold addV
    by_cases hc : l.contains s = true
    · rw [if_pos hc] at hs
      have hn : newer B (mkH s) = false := by
        rw [newer_some (s := mkH s) (o := mkH s) hs]; simp
      rw [if_neg (by rw [hn]; simp), ih a]
      by_cases e : a = s
      · subst e
        rw [if_pos hc, if_pos (by simp)]
      · have : (l ++ [s]).contains a = l.contains a := by
          rw [Bool.eq_iff_iff]; simp [e]
        rw [this]
    · rw [if_neg hc] at hs
      have hn : newer B (mkH s) = true := newer_none hs
      rw [if_pos hn]
      unfold knP
      simp only
      rw [show (mkH s).slot = s from rfl]
      by_cases e : a = s
      · subst e
        rw [if_pos rfl, if_pos (by simp)]
      · rw [if_neg e, ih a]
        have : (l ++ [s]).contains a = l.contains a := by
          rw [Bool.eq_iff_iff]; simp [e]
        rw [this]
def endH (F : Int) (l : List Int) : Int := l.foldl (fun e s => if e ≤ s then s + 1 else e) F
theorem endH_snoc (F : Int) (l : List Int) (s : Int) : endH F (l ++ [s]) = if endH F l ≤ s then s + 1 else endH F l := by unfold endH; rw [List.foldl_append]; rfl
theorem endH_is (F : Int) (l : List Int) : F ≤ endH F l ∧ (∀ s ∈ l, s < endH F l) ∧ (endH F l = F ∨ ∃ s ∈ l, F ≤ s ∧ endH F l = s + 1) := by
  refine snoc_ind (P := fun l => F ≤ endH F l ∧ (∀ s ∈ l, s < endH F l) ∧ (endH F l = F ∨ ∃ s ∈ l, F ≤ s ∧ endH F l = s + 1)) ?_ ?_ l
  · exact ⟨Int.le_refl _, by simp, Or.inl rfl⟩
  · intro l s ih
    obtain ⟨h1, h2, h3⟩ := ih
    rw [endH_snoc]
    by_cases h : endH F l ≤ s
    · rw [if_pos h]
      refine ⟨by omega, fun x hx => ?_, Or.inr ⟨s, by simp, by omega, rfl⟩⟩
      rcases List.mem_append.1 hx with hx | hx
      · have := h2 x hx; omega
      · simp at hx; omega
    · rw [if_neg h]
      refine ⟨h1, fun x hx => ?_, ?_⟩
      · rcases List.mem_append.1 hx with hx | hx
        · exact h2 x hx
        · simp at hx; omega
      · rcases h3 with h3 | ⟨x, hx, h4, h5⟩
        · exact Or.inl h3
        · exact Or.inr ⟨x, by simp [hx], h4, h5⟩
def lh1 (f : Int) : LS := beginL (newLS 1) 9 f
def lh2 (f lw : Int) (xs : List Int) : LS := promV (lh1 f) 0 lw (hlV xs xs.length)
theorem lh2_kn (f lw : Int) (xs : List Int) (a : Int) : (lh2 f lw xs).kn a = if (hlS xs xs.length).contains a then some (mkH a) else none := hl_kn (hlS xs xs.length) (promL (lh1 f) 0 lw) (fun _ => rfl) a
theorem lh2_first (f lw : Int) (xs : List Int) : (lh2 f lw xs).first = max f lw := (foldV_keeps (hlV xs xs.length) (promL (lh1 f) 0 lw)).2.2.2.1
theorem lh2_ballot (f lw : Int) (xs : List Int) : (lh2 f lw xs).ballot = 9 := (foldV_keeps (hlV xs xs.length) (promL (lh1 f) 0 lw)).2.2.1
theorem lh2_op (f lw : Int) (xs : List Int) (a : Int) : (lh2 f lw xs).op a = none := by
  have := (foldV_keeps (hlV xs xs.length) (promL (lh1 f) 0 lw)).2.2.2.2.2.2
  show ((hlV xs xs.length).foldl addV (promL (lh1 f) 0 lw)).op a = none
  rw [this]; rfl
theorem lh2_some {f lw : Int} {xs : List Int} {s : Int} : ((lh2 f lw xs).kn s).isSome = true ↔ s ∈ hlS xs xs.length := by
  rw [lh2_kn]
  by_cases h : (hlS xs xs.length).contains s = true
  · rw [if_pos h]; simp at h; simp [h]
  · rw [if_neg h]; simp at h; simp [h]
theorem lh2_end {f lw : Int} (xs : List Int) (hf : 0 ≤ f ∧ f < 16) (hl : 0 ≤ lw ∧ lw < 16) : IsEnd (lh2 f lw xs) (endH (max f lw) (hlS xs xs.length)) := by
  obtain ⟨h1, h2, h3⟩ := endH_is (max f lw) (hlS xs xs.length)
  have hle : endH (max f lw) (hlS xs xs.length) ≤ 32 := by
    rcases h3 with h3 | ⟨s, hs, _, h5⟩
    · omega
    · have := hlS_le hs; omega
  refine ⟨⟨by rw [lh2_first]; exact h1, ⟨by omega, by omega⟩⟩, fun s hs _ => h2 s (lh2_some.1 hs), ?_⟩
  rw [lh2_first]
  rcases h3 with h3 | ⟨s, hs, h4, h5⟩
  · exact Or.inl h3
  · exact Or.inr ⟨s, lh2_some.2 hs, h4, h5⟩
theorem lh2_near {f lw : Int} (xs : List Int) (hf : 0 ≤ f ∧ f < 16) (hl : 0 ≤ lw ∧ lw < 16) : ¬ farL (lh2 f lw xs) := by
  rintro ⟨s, hs, h1, h2⟩
  have := hlS_le (lh2_some.1 hs)
  rw [lh2_first] at h1 h2
  omega
theorem lh2_val (f lw : Int) (xs : List Int) (a : Int) : (kOr (lh2 f lw xs) a).val = if (hlS xs xs.length).contains a then [a, 1] else [] := by
  unfold kOr
  rw [lh2_kn]
  by_cases h : (hlS xs xs.length).contains a = true
  · rw [if_pos h, if_pos h]; rfl
  · rw [if_neg h, if_neg h]; rfl
set_option maxHeartbeats 8000000 in
theorem leaderHoles_walk {v0 : Value} {xs : List Int} {x1 x2 : Int} {W : World} (h0 : SlR W v0 (u8s xs)) (w0 : ∀ x ∈ xs, (Lit.int .u8 x).wf = true) (w1 : (Lit.int .u8 x1).wf = true) (w2 : (Lit.int .u8 x2).wf = true) :
    Calls Try.prog 9 #[v0, .int .u8 x1, .int .u8 x2] W fun e W' => e = .returned (.bool true) ∧ Below W.heap.size W W' := by
  simp [Lit.wf, IntKind.min, IntKind.max, IntKind.signed, IntKind.bits] at w1 w2
  have h8 := u8_of_wf w0
  have H0 := Lib.hid h0
  have H8 := Lib.hid h8
  obtain ⟨xo, xc, rfl, hxc, hxm⟩ := h0.form
  simp only [List.length_map] at H0 hxc ⊢
  obtain ⟨i0, hi, hz0, hz1, hz2⟩ := info_parts Try.voteInfo
  obtain ⟨j0, hj, hy0, hy1, hy2⟩ := info_parts Try.boolInfo
  have hmk : ∀ w : World, (Instr.makeSlice 28 (.int .i64 32) (.int .i64 32)).run Try.prog w = Result.ok (.slice (some ⟨w.heap.size, 0, none⟩) 32 32) (w.alloc (.cells (madeCells #[.bool false] 32) 4)) := fun w => run_make_row (P := Try.prog) 28 4 j0 (.bool false) Try.underlying28 hj hy0 hy1 rfl .i64 .i64 32 (by rw [hy2]; decide) (by decide) w
  have hand1 := and15 w1
  have hand2 := and15 w2
  obtain ⟨f, hf⟩ : ∃ f : Nat, (f : Int) = x1 % 16 := ⟨(x1 % 16).toNat, by omega⟩
  obtain ⟨lw, hlw⟩ : ∃ f : Nat, (f : Int) = x2 % 16 := ⟨(x2 % 16).toNat, by omega⟩
  rw [← hf] at hand1
  rw [← hlw] at hand2
  have hf16 : f < 16 := by omega
  have hl16 : lw < 16 := by omega
  have hwf : IntKind.u64.wrap (f : Int) = (f : Int) := IntWalk.u64_in _ (by omega)
  have hwl : IntKind.u64.wrap (lw : Int) = (lw : Int) := IntWalk.u64_in _ (by omega)
  clear h0 w0 h8 w1 w2 hf hlw
  go_enter Try.func9, Try.ntmps9
  go_wp2_with fail
  refine (lawake_any W).mono ?_
  rintro e w1 ⟨rfl, hb1⟩
  have HB1 := Lib.hid hb1
  clear hb1
  by_cases hlen : xs.length ≤ 20
  rotate_left
  · have hli : (20 : Int) < (xs.length : Int) := by omega
    go_wp2_with fail
    go_ret
    exact ⟨rfl, HB1.out⟩
  · have hli : decide ((20 : Int) < (xs.length : Int)) = false := decide_eq_false (by omega)
    go_wp2_with fail
    refine ((SepW.nil HB1.out).leaNew (many := 1) (by decide)).mono ?_
    rintro e w1 ⟨b0, D, rfl, hs1⟩
    have HS1 := Lib.hid hs1
    clear hs1 HB1
    go_wp2_with fail
    refine (HS1.out.leaBegin 0 rfl (b := 9) (fr := (f : Int)) (by decide) (by constructor <;> decide) (by constructor <;> omega)).mono ?_
    rintro e w2 ⟨rfl, D2, hs2⟩
    have HS2 : Hid (SepW W (w2.alloc (.cells (madeCells #[.bool false] 32) 4)) [obVts (.slice none (hlV xs 0).length 0) 39 [] (hlV xs 0), obArr w2.heap.size 32 4 (fun j => .bool ((hlS xs 0).contains (j : Int))), obLea (.pointer (some ⟨b0, 0, none⟩)) D2 0 (lh1 f)]) := Lib.hid ((hs2.arrMade (.bool false) 4 32).vtsNil 39)
    clear hs2 HS1
    obtain ⟨F, hF⟩ : ∃ F : Nat, F = max f lw := ⟨_, rfl⟩
    have hF16 : F < 16 := by omega
    have HF : Hid ((F : Int) = max (f : Int) (lw : Int)) := Lib.hid (by omega)
    go_upto_if 50 with fail
    go_cut [12] from 43 (fun s12 wc => s12 = .int .u64 (F : Int) ∧ SepW W wc [obVts (.slice none (hlV xs 0).length 0) 39 [] (hlV xs 0), obArr w2.heap.size 32 4 (fun j => .bool ((hlS xs 0).contains (j : Int))), obLea (.pointer (some ⟨b0, 0, none⟩)) D2 0 (lh1 f)])
    case first =>
      by_cases hfl : f < lw
      · have hfd : decide ((f : Int) < (lw : Int)) = true := decide_eq_true (by omega)
        have hFl : F = lw := by omega
        have HFl := Lib.hid hFl
        clear hFl hF
        go_wp2_with fail
        go_meet
        case rel => exact ⟨by rw [HFl.out], HS2.out⟩
      · have hfd : decide ((f : Int) < (lw : Int)) = false := decide_eq_false (by omega)
        have hFl : F = f := by omega
        have HFl := Lib.hid hFl
        clear hFl hF
        go_wp2_with fail
        go_meet
        case rel => exact ⟨by rw [HFl.out], HS2.out⟩
    case rest =>
      obtain ⟨rfl, hs3⟩ := hcut
      have HS3 := Lib.hid hs3
      clear hs3 HS2 hF hmk
      generalize w2.heap.size = LB at *
      go_wp2_with fail
      go_loopw [14, 10, 13, 15] (fun i ov ev _ wr => ∃ (k : Nat) (vs : List Value) (ao : Option Addr) (c : Nat), k ≤ xs.length ∧ i = .int .i64 k ∧ ov = .slice ao (hlV xs k).length c ∧ ev = .int .u64 (endH F (hlS xs k)) ∧
        SepW W wr [obVts (.slice ao (hlV xs k).length c) 39 vs (hlV xs k), obArr LB 32 4 (fun j => .bool ((hlS xs k).contains (j : Int))), obLea (.pointer (some ⟨b0, 0, none⟩)) D2 0 (lh1 f)]) (fun i _ _ _ _ => xs.length - (intOf i).toNat)
      case atStart => exact ⟨0, [], none, 0, by omega, rfl, rfl, rfl, HS3.out⟩
      case round =>
        clear HS3
        obtain ⟨k, vs, ao, c, hk, rfl, rfl, rfl, hsep⟩ := hrel
        have HSk := Lib.hid hsep
        clear hsep
        by_cases hlt : k < xs.length
        · have hki : (k : Int) < (xs.length : Int) := by omega
          obtain ⟨x, hx⟩ : ∃ x, xs[k]? = some x := ⟨_, List.getElem?_eq_getElem hlt⟩
          obtain ⟨xo', xc', hxe, _, _, hxx⟩ := (H0.out.below HSk.out.below (Nat.le_refl _))
          simp only [List.length_map] at hxe
          cases hxe
          obtain ⟨xa, rfl, hxm2⟩ := hxx k (.int .u8 x) (by rw [List.getElem?_map, hx]; rfl)
          have hand := and31 (H8.out x (List.mem_of_getElem? hx))
          have hTk := hlS_succ hx
          have hbx := H8.out x (List.mem_of_getElem? hx)
          obtain ⟨s, hs⟩ : ∃ s : Nat, (s : Int) = x % 32 := ⟨(x % 32).toNat, by omega⟩
          rw [← hs] at hand hTk
          have hs32 : s < 32 := by omega
          have hTv : hlV xs (k + 1) = hlV xs k ++ [mkH s] := by unfold hlV; rw [hTk, List.map_append]; rfl
          have hTe : endH F (hlS xs (k + 1)) = if endH F (hlS xs k) ≤ (s : Int) then (s : Int) + 1 else endH F (hlS xs k) := by rw [hTk, endH_snoc]
          have hwk : IntKind.u64.wrap (s : Int) = (s : Int) := IntWalk.u64_in _ (by omega)
          have hwb : IntKind.u8.wrap (s : Int) = (s : Int) := IntWalk.u8_in _ (by omega)
          have hws : IntKind.u64.wrap ((s : Int) + 1) = (s : Int) + 1 := IntWalk.u64_in _ (by omega)
          have hs0 : (0 : Int) ≤ (s : Int) := by omega
          have hsi : (s : Int) < 32 := by omega
          have HTk := Lib.hid hTk
          have HTv := Lib.hid hTv
          have HTe := Lib.hid hTe
          clear hs hTk hTv hTe hbx
          have HS5 : Hid (SepW W (wr.alloc (.cells #[.int .u8 (s : Int), .int .u8 1] 5)) [obRow (.slice (some ⟨wr.heap.size, 0, none⟩) 2 2) 5 1 2 (u8s [(s : Int), 1]), obVts (.slice ao (hlV xs k).length c) 39 vs (hlV xs k), obArr LB 32 4 (fun j => .bool ((hlS xs k).contains (j : Int))), obLea (.pointer (some ⟨b0, 0, none⟩)) D2 0 (lh1 f)]) := Lib.hid (HSk.out.litRow [.int .u8 (s : Int), .int .u8 1] 5 (by simp))
          have HO5 := Lib.hid ((HS5.out.get 1 rfl : (obVts (.slice ao (hlV xs k).length c) 39 vs (hlV xs k)).inv _).1)
          have hk40 : (hlV xs k).length ≤ 1099511627776 := by rw [hlV_len _ _ hk]; omega
          have HU4 : Hid (∀ u ∈ (#[.int .u64 (s : Int), .int .u64 2, .slice (some ⟨wr.heap.size, 0, none⟩) 2 2] : Array Value).toList, u.oneCell' = true) := Lib.hid (by intro u hu; simp at hu; rcases hu with rfl | rfl | rfl <;> rfl)
          clear hxx hx
          go_wp2_with (first
            | (at_builtin; (refine wpList_appS rfl (.tmp 67) (.tmp 73) 33 rfl 0 39 i0 _ 3 40 Try.underlying33 hi hz0 hz1 hz2 rfl (by decide) (by decide) rfl rfl (by simp) rfl HO5.out HU4.out hk40 (Nat.zero_le _) ?_)
               intro g7 cap7 w7 hown7 hg7 hor7
               obtain ⟨l, _, rfl, hsA⟩ := HS5.out.vtApp 1 0 (by decide) (s := mkH s) rfl rfl hg7 hor7 hown7
               have hll : (hlV xs k).length + 1 = (hlV xs (k + 1)).length := by rw [HTv.out]; simp
               rw [hll] at hsA
               rw [← HTv.out] at hsA
               have HLL := Lib.hid hll
               have HSA : Hid (SepW W w7 [obVts (.slice (some ⟨g7, 0, none⟩) (hlV xs (k + 1)).length cap7) 39 (vs ++ [.int .u64 (s : Int), .int .u64 2, .slice (some ⟨wr.heap.size, 0, none⟩) 2 2]) (hlV xs (k + 1)), obArr LB 32 4 (fun j => .bool ((hlS xs k).contains (j : Int))), obLea (.pointer (some ⟨b0, 0, none⟩)) D2 0 (lh1 f)]) := Lib.hid hsA
               obtain ⟨f1, f2⟩ := HSA.out.arrCell 1 rfl hs32
               clear hsA hown7 hg7 hor7 hll)
            | fail)
          all_goals
            have hs8 := HSA.out.arrSet 1 rfl hs32 (.bool true)
            have e1 : obArr LB 32 4 (fun i => if i = s then .bool true else .bool ((hlS xs k).contains (i : Int))) = obArr LB 32 4 (fun i => .bool ((hlS xs (k + 1)).contains (i : Int))) := obArr_congr fun i hi => by
              rw [HTk.out]
              by_cases h : i = s
              · subst h; simp
              · have : (hlS xs k ++ [(s : Int)]).contains (i : Int) = (hlS xs k).contains (i : Int) := by
                  rw [Bool.eq_iff_iff]; simp; omega
                rw [if_neg h, this]
            have HS8 : Hid (SepW W _ [obVts (.slice (some ⟨g7, 0, none⟩) (hlV xs (k + 1)).length cap7) 39 (vs ++ [.int .u64 (s : Int), .int .u64 2, .slice (some ⟨wr.heap.size, 0, none⟩) 2 2]) (hlV xs (k + 1)), obArr LB 32 4 (fun j => .bool ((hlS xs (k + 1)).contains (j : Int))), obLea (.pointer (some ⟨b0, 0, none⟩)) D2 0 (lh1 f)]) := Lib.hid (e1 ▸ hs8)
            clear e1 hs8 f1 f2 HSA HS5
            go_roundw
            case rel => exact ⟨k + 1, _, _, _, by omega, by go_num, by rw [← HLL.out], by rw [HTe.out]; first | rw [if_pos (by omega)] | rw [if_neg (by omega)], HS8.out⟩
            case measure => simp [intOf]; omega
        · have hkl : k = xs.length := by omega
          subst hkl
          have hkd : decide ((xs.length : Int) < (xs.length : Int)) = false := decide_eq_false (by omega)
          obtain ⟨n, hn⟩ : ∃ n : Nat, endH F (hlS xs xs.length) = (F : Int) + (n : Int) := ⟨(endH F (hlS xs xs.length) - F).toNat, by have := (endH_is F (hlS xs xs.length)).1; omega⟩
          have hEnd : IsEnd (lh2 f lw xs) ((F : Int) + (n : Int)) := by
            have := lh2_end (f := f) (lw := lw) xs (by omega) (by omega)
            rw [← HF.out, hn] at this; exact this
          have hFir : (lh2 f lw xs).first = (F : Int) := by rw [lh2_first]; exact HF.out.symm
          have hn32 : F + n ≤ 32 := by
            rcases hEnd.2.2 with h | ⟨q, q1, _, q2⟩
            · rw [hFir] at h; omega
            · have := hlS_le (lh2_some.1 q1); omega
          have HEnd := Lib.hid hEnd
          have HFir := Lib.hid hFir
          have HVO := Lib.hid (hlV_ok xs xs.length)
          have hvl : (hlV xs xs.length).length ≤ 20 := by rw [hlV_len _ _ (Nat.le_refl _)]; exact hlen
          have HVt := Lib.hid (HSk.out.vtHeld 2 0 (by decide) rfl rfl)
          rw [hn]
          clear hn hEnd hFir hlt hk
          go_wp2_with fail
          refine (HSk.out.leaProm 2 rfl (n := 0) (b := 9) (low := (lw : Int)) (v := .slice ao (hlV xs xs.length).length c) (hs := hlV xs xs.length) ⟨rfl, rfl, by decide, by show (0 : Int) < 1; decide⟩ rfl (by constructor <;> omega) HVt.out HVO.out (by omega)).mono ?_
          rintro e w5 (⟨hm, _⟩ | ⟨_, hf, _⟩ | ⟨_, _, en, D4, ks, bo, bc, bvs, hen, hks, rfl, hs4⟩)
          · exact absurd (show ((promV (lh1 f) 0 lw (hlV xs xs.length)).many : Int) / 2 < cnt 32 (promV (lh1 f) 0 lw (hlV xs xs.length)).prom from by rw [promV_many, promV_prom]; show (1 : Int) / 2 < cnt 32 (addK (fun _ => false) 0); decide) hm
          · exact absurd hf (lh2_near (f := f) (lw := lw) xs (by omega) (by omega))
          obtain rfl : en = (F : Int) + (n : Int) := hen.unique HEnd.out
          have hop : opL (leadP (promV (lh1 f) 0 lw (hlV xs xs.length)) ((F : Int) + (n : Int))) ks = leadV (lh2 f lw xs) n := lead_votes hks (lh2_op f lw xs) (by rw [show (promV (lh1 f) 0 lw (hlV xs xs.length)).first = (F : Int) from HFir.out])
          rw [hop] at hs4 ⊢
          have hpl : (leadV (lh2 f lw xs) n).length = n := leadV_len _ _
          rw [hpl] at hs4 ⊢
          have HS4 : Hid (SepW W w5 [obVts (.slice bo n bc) 39 bvs (leadV (lh2 f lw xs) n), obVts (.slice ao (hlV xs xs.length).length c) 39 vs (hlV xs xs.length), obArr LB 32 4 (fun j => .bool ((hlS xs xs.length).contains (j : Int))), obLea (.pointer (some ⟨b0, 0, none⟩)) D4 (0 + (hlV xs xs.length).length + 4097) (leadL (lh2 f lw xs) (F + n))]) := Lib.hid hs4
          have hwn : IntKind.u64.wrap (n : Int) = (n : Int) := IntWalk.u64_in _ (by omega)
          have hwF : IntKind.u64.wrap ((F : Int) + (n : Int) - (F : Int)) = (n : Int) := by rw [show (F : Int) + (n : Int) - (F : Int) = (n : Int) by omega]; exact hwn
          clear hs4 hop hpl hks hen HSk HVt HVO
          have HB := Lib.hid (lh2_ballot f lw xs)
          generalize (hlV xs xs.length).length = vn at *
          go_wp2_with fail
          go_loopw [18, 19] (fun vi _ wr2 => ∃ i : Nat, i ≤ n ∧ vi = .int .i64 i ∧ SepW W wr2 [obVts (.slice bo n bc) 39 bvs (leadV (lh2 f lw xs) n), obVts (.slice ao vn c) 39 vs (hlV xs xs.length), obArr LB 32 4 (fun j => .bool ((hlS xs xs.length).contains (j : Int))), obLea (.pointer (some ⟨b0, 0, none⟩)) D4 (0 + vn + 4097) (leadL (lh2 f lw xs) (F + n))]) (fun vi _ _ => n - (intOf vi).toNat)
          case atStart => exact ⟨0, by omega, rfl, HS4.out⟩
          case round =>
            clear HS4
            obtain ⟨i, hin, rfl, hsep⟩ := hrel
            have HSi := Lib.hid hsep
            clear hsep
            by_cases hlt : i < n
            · have hii : (i : Int) < (n : Int) := by omega
              obtain ⟨m, hm⟩ : ∃ m : Nat, (F : Int) + (i : Int) = (m : Int) := ⟨F + i, by omega⟩
              have hm32 : m < 32 := by omega
              have hmi : (m : Int) < 32 := by omega
              have hm0 : (0 : Int) ≤ (m : Int) := by omega
              have hwi : IntKind.u64.wrap (i : Int) = (i : Int) := IntWalk.u64_in _ (by omega)
              have hwm : IntKind.u64.wrap (m : Int) = (m : Int) := IntWalk.u64_in _ (by omega)
              have hwb : IntKind.u8.wrap (m : Int) = (m : Int) := IntWalk.u8_in _ (by omega)
              have hLk : (leadV (lh2 f lw xs) n)[i]? = some ⟨(m : Int), 9, if (hlS xs xs.length).contains (m : Int) then [(m : Int), 1] else []⟩ := by
                rw [leadV_at hlt, HFir.out, hm, HB.out, lh2_val]
              obtain ⟨f1, f2⟩ := HSi.out.arrCell 2 rfl hm32
              have hv := (HSi.out.get 0 rfl : (obVts (.slice bo n bc) 39 bvs (leadV (lh2 f lw xs) n)).inv wr)
              obtain ⟨ao', c', he, hc1, hc2, hvx⟩ := VtL.of_own hv.1 hv.2.1
              have hpl : (leadV (lh2 f lw xs) n).length = n := leadV_len _ _
              rw [hpl] at he
              cases he
              obtain ⟨ra, sv, rfl, q0, q1, q2, hsv⟩ := hvx i _ hLk
              have hmm : ((m : Int) != (m : Int)) = false := by simp
              cases hc : (hlS xs xs.length).contains (m : Int)
              · rw [hc] at f1 hsv
                simp only [Bool.false_eq_true, if_false] at hsv
                obtain ⟨so, sc, rfl, hsc1, hsc2⟩ := hsv.form
                simp only at q0 q1 q2
                clear hvx hv hsv hLk hc hpl
                go_wp2_with fail
                go_quiet (fail)
                go_wp2_with fail
                go_roundw
                case rel => exact ⟨i + 1, by omega, by go_num, by first | exact HSi.out.drew | exact HSi.out.drewN _⟩
                case measure => simp [intOf]; omega
              · rw [hc] at f1 hsv
                simp only [if_true] at hsv
                obtain ⟨so, sc, rfl, hsc1, hsc2, hsx⟩ := id hsv
                obtain ⟨sa, rfl, qx⟩ := hsx 0 (.int .u8 (m : Int)) rfl
                have qx2 : wr.cell? sa = some (.int .u8 (m : Int)) := qx
                simp only at q0 q1 q2
                clear hvx hv hsv hLk hc hpl hsx
                go_wp2_with fail
                go_quiet (fail)
                go_wp2_with fail
                go_roundw
                case rel => exact ⟨i + 1, by omega, by go_num, by first | exact HSi.out.drew | exact HSi.out.drewN _⟩
                case measure => simp [intOf]; omega
            · have hni : i = n := by omega
              subst hni
              have hid : decide ((i : Int) < (i : Int)) = false := decide_eq_false (by omega)
              clear hlt hin
              go_wp2_with fail
              refine (HSi.out.leaPropose 3 rfl (xs := []) (SlR.nil wr) (by intro x hx; cases hx) (by decide) rfl (by show (F : Int) + (i : Int) ≠ 18446744073709551615; omega) (by have := hvl; omega)).mono ?_
              rintro e w7 ⟨po, pc, D5, rfl, hs5⟩
              have HS5 := Lib.hid hs5
              clear hs5 HSi
              rw [show (leadL (lh2 f lw xs) (F + i)).next = (F : Int) + (i : Int) from rfl]
              go_wp2_with fail
              go_ret
              exact ⟨rfl, HS5.out.below.trans ((below_lit w7 _).mono HS5.out.below.size)⟩
theorem leaderHoles_holds : Rows.LeaderHolesSaid :=
  OpenClaim.holds_of_wide 9 Try.f9 rfl rfl rfl rfl rfl rfl rfl ⟨rfl, rfl, rfl, rfl, rfl⟩ rfl rfl rfl rfl rfl (by kernel_rfl) Try.func9 (by kernel_rfl)
    (of_decide_eq_true (by kernel_rfl)) (by unfold Func.isWrapper; rw [if_neg (by decide +kernel)]; exact ⟨rfl, rfl⟩)
    (fun os started H enc _ => law_frame (C := Try.checked) (fn := Try.f9) (s := Rows.leaderHolesSpec) (tb := 4) Try.own started (by kernel_rfl) Try.func9 Try.laidOut rfl (by kernel_rfl) Try.underlying4 (by kernel_rfl)
      (fun ds hd => by match ds, hd with | [_, _, _], _ => exact ⟨rfl, rfl, rfl⟩)
      (ChangeSpec.witness6 (enc := enc) (C := Try.checked) false ⟨#[], #[.slice none 0 0, .int .u8 0, .int .u8 0], []⟩ 8 (by kernel_rfl) (by kernel_rfl) (by kernel_rfl) (by kernel_rfl))
      (fun W base args ds p hval0 hA0 _ => by
        have hval : ∀ (j : Nat) t v, Try.f9.params[j]? = some t → args[j]? = some v → Value.okWide Try.prog W .any base t v := hval0
        have hA : DataW.TrodAll enc Try.prog W 0 (fun _ => true) true Try.f9.params.toList args.toList ds p := hA0
        rw [Try.params9] at hA hval
        obtain ⟨v0, v1, v2, d0, d1, d2, p0, p1, p2, rfl, rfl, rfl, h0, h1, h2⟩ := trodAll_three hA
        obtain ⟨x0, hx0, wx0⟩ := arg_ints Try.underlying30 Try.underlying5 (by kernel_rfl) (hval 0 30 v0 rfl rfl) h0
        obtain ⟨x1, rfl, rfl, rfl, wx1⟩ := open_int Try.underlying5 (hval 1 5 v1 rfl rfl) h1
        obtain ⟨x2, rfl, rfl, rfl, wx2⟩ := open_int Try.underlying5 (hval 2 5 v2 rfl rfl) h2
        exact leaderHoles_walk hx0 wx0 wx1 wx2))

end Go.Proofs.Ytjdjfhioobhcjaa
