/-
  Law 17: a cluster as things; a message comes.
-/
import Derived.Test.YtgmdedkingampaaGreatPxQ
import Derived.Test.YtgmdedkingampaaGreatSuf
set_option linter.unusedVariables false
set_option linter.unusedSimpArgs false
namespace Go.Proofs.YtgmdedkingampaaGreat
open Go.ChangeShapes Go.WideShapes Go.ChangeAt Go.RowKit Go.Maps
set_option maxRecDepth 1000000
set_option linter.unusedVariables false
set_option linter.unusedSimpArgs false

/-- A new node on a blank disk of its own. -/
def newNd (id : Int) (ps : List Int) (N n : Nat) (pat : Int) : Nd :=
  ⟨id, ps, newDk N, newSg 0 n, 0, emptyAS, 0, fun _ => none, 0, 0, newLS ps.length, pat * (idxI ps id + 1), pat * (idxI ps id + 1), 0, 0⟩
theorem idxI_in {xs : List Int} {x : Int} (h : x ∈ xs) : 0 ≤ idxI xs x ∧ idxI xs x < xs.length := by
  unfold idxI
  rw [if_pos h]
  have := List.findIdx_lt_length_of_exists (p := (· == x)) ⟨x, h, by simp⟩
  omega
section
variable {W w w' : World} {os : List Ob}
theorem SepW.pull (h : SepW W w os) (i : Nat) {o : Ob} (hi : os[i]? = some o) : SepW W w (o :: os.eraseIdx i) := h.perm (front_perm hi)
open Classical in
set_option maxHeartbeats 4000000 in
theorem nd_open {b0 N n : Nat} {D : Nat → Prop} {lv : Value} {ps : List Int} {id pat : Int} (h : SepW W w (obDk b0 D (newDk N) :: os)) (hl : Held W (obDk b0 D (newDk N) :: os) lv (i64s ps)) (hr : RightL ps) (hid : id ∈ ps) (hp : 1 ≤ pat ∧ pat ≤ 1000) (hn : 1 ≤ n ∧ n ≤ N) (hN : N ≤ 65536) :
    Calls Tryz.prog 21 #[.pointer (some ⟨b0, 0, none⟩), .int .i64 0, .int .i64 n, .int .i64 id, lv, .int .i64 pat] w fun e w' =>
      ∃ (q : NdA) (f : NdF), e = .returned (.tuple #[.pointer (some ⟨q.x, 0, none⟩), .int .i64 0]) ∧ q.b0 = b0 ∧ SepW W w' (ndOs q f (newNd id ps N n pat) os) := by
  have hps : ps.length ≤ 7 := hr.2.2
  have hp1 : 1 ≤ ps.length := hr.2.1
  have hix := idxI_in hid
  obtain ⟨lo, lc, rfl, hlc, hlc2⟩ := (hl.at0 h).form
  simp only [List.length_map] at hl hlc hlc2 ⊢
  have H := Lib.hid h
  have HL := Lib.hid hl
  have HRt := Lib.hid hr
  have HI := Lib.hid (index_any (hl.at0 h) id)
  have HR := Lib.hid (right_any' (hl.at0 h))
  rw [decide_eq_true hr] at HR
  have HId := Lib.hid hid
  have HIx := Lib.hid hix
  clear h hl hr hid hix
  go_enter Tryz.func21, Tryz.ntmps21
  go_wp2_with fail
  refine HI.out.mono ?_
  rintro e w1 ⟨rfl, rfl⟩
  go_wp2_with fail
  refine HR.out.mono ?_
  rintro e w1 ⟨rfl, rfl⟩
  clear HI HR
  have hneg : decide (idxI ps id < 0) = false := decide_eq_false (by have := HIx.out.1; omega)
  have HEl := Lib.hid (H.out.elNew (at' := idxI ps id) (p := pat) HIx.out.1 (by have := HIx.out.2; omega) hp.1 hp.2)
  go_wp2_with fail
  refine HEl.out.mono ?_
  rintro e w2 ⟨bEl, rfl, hs2⟩
  have HS2 := Lib.hid hs2
  have HSg := Lib.hid (hs2.sgOpen 1 rfl (fr := 0) (n := n) hn.1 (by omega) hN)
  clear hs2 HEl H
  go_wp2_with fail
  refine HSg.out.mono ?_
  rintro e w3 ⟨s0, Ds, rfl, hs3⟩
  have HS3 := Lib.hid hs3
  have HLe := Lib.hid (hs3.leaNew (many := (ps.length : Int)) ⟨by omega, by omega⟩)
  clear hs3 HSg HS2
  go_wp2_with fail
  refine HLe.out.mono ?_
  rintro e w4 ⟨bL, DL, rfl, hs4⟩
  have HS4 := Lib.hid hs4
  have HCl := Lib.hid (cloneI_any ((HL.out.more [_, _, _]).at0 hs4) (by omega))
  clear hs4 HLe HS3
  go_wp2_with fail
  refine HCl.out.mono ?_
  rintro e w5 ⟨cv, rfl, ho5, hb5⟩
  obtain ⟨co, cc, rfl, -, -⟩ := own_form ho5
  have hs5 := HS4.out.newRow ho5 hb5
  have HS5 := Lib.hid hs5
  have HAc := Lib.hid hs5.accNew
  clear hs5 ho5 hb5 HCl HS4
  go_wp2_with fail
  refine HAc.out.mono ?_
  rintro e w6 ⟨bA, DA, rfl, hs6⟩
  have HS6 := Lib.hid hs6
  have HLn := Lib.hid hs6.lnNew
  clear hs6 HAc HS5
  go_wp2_with fail
  refine HLn.out.mono ?_
  rintro e w7 ⟨bN, DN, rfl, hs7⟩
  have HS7 := Lib.hid hs7
  clear hs7 HLn HS6
  go_upto_region 14 with fail
  have hs8 := HS7.out.newBlk #[.int .i64 id, .slice co ps.length cc, .pointer (some ⟨s0, 0, none⟩), .pointer (some ⟨bA, 0, none⟩), .pointer (some ⟨bN, 0, none⟩), .pointer (some ⟨bL, 0, none⟩), .pointer (some ⟨bEl, 0, none⟩), .int .i64 0] 78
  have HS8 := Lib.hid hs8
  have HSl := Lib.hid (hs8.sgLen 5 rfl)
  clear hs8
  generalize (w7.alloc (.cells #[.int .i64 id, .slice co ps.length cc, .pointer (some ⟨s0, 0, none⟩), .pointer (some ⟨bA, 0, none⟩), .pointer (some ⟨bN, 0, none⟩), .pointer (some ⟨bL, 0, none⟩), .pointer (some ⟨bEl, 0, none⟩), .int .i64 0] 78)) = W8 at *
  generalize w7.heap.size = bX at *
  clear HS7
  go_wp2_with fail
  refine HSl.out.mono ?_
  rintro e w9 ⟨rfl, rfl⟩
  clear HSl
  go_wp2_with fail
  go_loopw [20, 21, 22, 73] (fun _ _ _ i wr => i = .int .i64 0 ∧ Hid (W8 = wr)) (fun _ _ _ _ _ => 0)
  case atStart => exact ⟨rfl, by first | exact Lib.hid rfl | exact Lib.hid trivial⟩
  case round =>
    obtain ⟨rfl, hw⟩ := hrel
    have hw' := hw.out
    clear hw
    subst hw'
    go_wp2_with fail
    go_returns
    have h1 := HS8.out.pull 3 rfl
    have h2 := h1.pull 6 rfl
    have h3 := h2.pull 5 rfl
    have h4 := h3.pull 4 rfl
    have h5 := h4.pull 5 rfl
    have h6 := h5.pull 6 rfl
    have h7 := h6.pull 7 rfl
    have h8 := h7.pull 7 rfl
    exact ⟨⟨bX, b0, s0, bN, bEl, some ⟨bA, 0, none⟩, some ⟨bL, 0, none⟩, co, cc⟩, ⟨D, Ds, DA, DN, DL⟩, rfl, rfl, h8⟩
end
end Go.Proofs.YtgmdedkingampaaGreat

namespace Go.Proofs.YtgmdedkingampaaGreat
open Go.ChangeShapes Go.WideShapes Go.ChangeAt Go.RowKit Go.Maps
set_option maxRecDepth 1000000
set_option linter.unusedVariables false
set_option linter.unusedSimpArgs false

theorem Tryz.mailInfo : (Tryz.prog.info? 44).map (fun i => (i.zero, i.size, i.bytes)) = some (some (.agg #[.int .i64 0, .int .i64 0, .int .i64 0, .int .u64 0, .int .u64 0, .int .i64 0, .int .i64 0, .int .u64 0, .int .u64 0, .int .u64 0, .int .i64 0, .slice none 0 0, .slice none 0 0]), 13, 136) := by kernel_rfl
abbrev mlC (s t k b l : Int) (bv : Value) : Array Value := #[.int .i64 s, .int .i64 t, .int .i64 k, .int .u64 b, .int .u64 l, .int .i64 0, .int .i64 0, .int .u64 0, .int .u64 0, .int .u64 0, .int .i64 0, .slice none 0 0, bv]
/-- Messages under way: who sent them, what they are, where their bytes lie. -/
def mailC (M : List (Int × Om × Value)) : List Value := M.flatMap (fun p => (mlC p.1 p.2.1.dst p.2.1.kind p.2.1.ballot p.2.1.slot p.2.2).toList)
theorem mailC_snoc (M : List (Int × Om × Value)) (p : Int × Om × Value) : mailC (M ++ [p]) = mailC M ++ (mlC p.1 p.2.1.dst p.2.1.kind p.2.1.ballot p.2.1.slot p.2.2).toList := by simp [mailC, List.flatMap_append]
/-- Messages that go join those under way, as far as there is room. -/
def sendM (s : Int) (l : List (Om × Value)) (M : List (Int × Om × Value)) : List (Int × Om × Value) := M ++ (l.take (400 - M.length)).map (fun p => (s, p))
abbrev clC (n : Int) (dv nv mv : Value) : Array Value := #[.int .i64 n, dv, nv, mv]
theorem outC_at {l : List (Om × Value)} {k : Nat} {p : Om × Value} (h : l[k]? = some p) (j : Nat) (hj : j < 12) : (outC l)[k * 12 + j]? = (otC p.1.dst p.1.kind p.1.ballot p.1.slot p.2).toList[j]? := by
  induction l generalizing k with
  | nil => cases h
  | cons a r ih =>
    have e : outC (a :: r) = (otC a.1.dst a.1.kind a.1.ballot a.1.slot a.2).toList ++ outC r := by simp [outC]
    have hl : (otC a.1.dst a.1.kind a.1.ballot a.1.slot a.2).toList.length = 12 := rfl
    rw [e]
    cases k with
    | zero =>
      obtain rfl : a = p := by simpa using h
      rw [List.getElem?_append_left (by rw [hl]; omega)]
      simp
    | succ k =>
      rw [List.getElem?_append_right (by rw [hl]; omega), hl, show (k + 1) * 12 + j - 12 = k * 12 + j by omega]
      exact ih (by simpa using h)
section
variable {W w w' : World} {os : List Ob}
theorem SepW.clCell {c : Nat} {n : Int} {dv nv mv : Value} (h : SepW W w os) (i : Nat) (hi : os[i]? = some (obBlk c (.cells (clC n dv nv mv) 36))) :
    w.cell? ⟨c, 0, none⟩ = some (.int .i64 n) ∧ w.cell? ⟨c, 1, none⟩ = some dv ∧ w.cell? ⟨c, 2, none⟩ = some nv ∧ w.cell? ⟨c, 3, none⟩ = some mv ∧ ∀ j, w.frozen? ⟨c, j, none⟩ = false := by
  have hb : w.heap[c]? = some (.cells (clC n dv nv mv) 36 (0, 0)) := h.get i hi
  refine ⟨?_, ?_, ?_, ?_, fun j => by simp [World.frozen?, hb]⟩ <;> simp [World.cell?, hb]
attribute [local go_sem ↓] ex_rowLoad ex_rowBuild
set_option maxHeartbeats 4000000 in
theorem cl_send {c : Nat} {n s : Int} {dv nv mv v : Value} {M : List (Int × Om × Value)} {l : List (Om × Value)} {ovs : List Value}
    (h : SepW W w (obBlk c (.cells (clC n dv nv mv) 36) :: obSuf mv 44 13 M.length (mailC M) :: obRow v 85 12 l.length (outC l) :: os))
    (hf : ∀ p ∈ l, ∃ bo bc, p.2 = .slice bo p.1.body.length bc) (hM : M.length ≤ 400) :
    Calls Tryz.prog 12 #[.pointer (some ⟨c, 0, none⟩), .int .i64 s, v] w fun e w' => e = .returned (.tuple #[]) ∧ ∃ mv', SepW W w' (obBlk c (.cells (clC n dv nv mv') 36) :: obSuf mv' 44 13 (sendM s l M).length (mailC (sendM s l M)) :: obRow v 85 12 l.length (outC l) :: os) := by
  obtain ⟨vo, vc, rfl, hvc, hvc2⟩ := own_form (h.get 2 rfl : w.ownsRow 0 85 12 v l.length (outC l))
  obtain ⟨mo, mc, rfl, hmc, hmc2⟩ := (h.get 1 rfl : OwnsSuf w 44 13 mv M.length (mailC M)).form
  have H := Lib.hid h
  have HF := Lib.hid hf
  clear h hf
  go_enter Tryz.func12, Tryz.ntmps12
  go_wp2_with fail
  go_loopw [6] (fun i wr => ∃ (k : Nat) (mo : Option Addr) (mc : Nat), k ≤ l.length ∧ (k = 0 ∨ M.length + k ≤ 400) ∧ i = .int .i64 k ∧ Hid (SepW W wr (obBlk c (.cells (clC n dv nv (.slice mo (M.length + k) mc)) 36) :: obSuf (.slice mo (M.length + k) mc) 44 13 (M.length + k) (mailC (M ++ (l.take k).map (fun p => (s, p)))) :: obRow (.slice vo l.length vc) 85 12 l.length (outC l) :: os))) (fun i _ => l.length - (intOf i).toNat)
  case atStart => exact ⟨0, mo, mc, by omega, Or.inl rfl, rfl, by simpa using H⟩
  case round =>
    clear H
    obtain ⟨k, mo, mc, hk, hk4, rfl, hs⟩ := hrel
    obtain ⟨-, -, -, c3, cf⟩ := hs.out.clCell 0 rfl
    by_cases hlt : k < l.length
    · have hlt2 : (k : Int) < (l.length : Int) := by omega
      by_cases hroom : M.length + k < 400
      · have hroom2 : ((M.length + k : Nat) : Int) < 400 := by omega
        obtain ⟨p, hp⟩ : ∃ p, l[k]? = some p := ⟨_, List.getElem?_eq_getElem hlt⟩
        obtain ⟨bo, bc, hpe⟩ := HF.out p (List.mem_of_getElem? hp)
        obtain ⟨om, ob⟩ := p
        simp only at hpe
        subst hpe
        have hor : wr.ownsRow 0 85 12 (.slice vo l.length vc) l.length (outC l) := hs.out.get 2 rfl
        obtain ⟨g, rfl⟩ : ∃ g, vo = some ⟨g, 0, none⟩ := by
          rcases hor.2 with ⟨e, h0⟩ | ⟨g, cap, _, e, _⟩
          · simp only [Value.slice.injEq] at e; omega
          · cases e; exact ⟨g, rfl⟩
        go_upto_region 3 with fail
        have hx0 := outC_at hp 0 (by decide)
        have e0 : wr.cell? ⟨g, k * 12, none⟩ = some (.int .i64 om.dst) := by rw [hor.cellAt (k * 12) (by omega)]; exact hx0
        have hgl : g < wr.heap.size := World.block_lt_of_cell? wr _ e0
        have hra : wr.rangeAt g (k * 12 + 1) (mgC om.kind om.ballot om.slot (.slice bo om.body.length bc)).toList := fun j u hj => by
          have hj11 : j < 11 := by have := (List.getElem?_eq_some_iff.1 hj).1; simpa using this
          have h1 := outC_at hp (1 + j) (by omega)
          rw [show k * 12 + 1 + j = k * 12 + (1 + j) by omega, hor.cellAt (k * 12 + (1 + j)) (by omega), h1, ← hj]
          rw [show 1 + j = j + 1 by omega]
          rfl
        have hld := run_rowLoad (P := Tryz.prog) (w := wr.drew) 42 g (k * 12 + 1) (mgC om.kind om.ballot om.slot (.slice bo om.body.length bc)).toList _ hra Tryz.underlying42 rfl (by kernel_rfl)
        have hld2 : (rowLoad 42 (.pointer (some ⟨g, k * 12 + 1, none⟩))).run Tryz.prog wr.drew = .ok (.agg (mgC om.kind om.ballot om.slot (.slice bo om.body.length bc))) wr.drew := hld
        have hmk : RowMark 42 := ⟨trivial⟩
        have hmk2 : BuildMark 34 := ⟨trivial⟩
        have hbs := run_rowBuild (P := Tryz.prog) 34 44 (mlC s om.dst om.kind om.ballot om.slot (.slice bo om.body.length bc)) 13 136 _ Tryz.underlying34 Tryz.mailInfo (by decide) (by decide) rfl
        have hone : ∀ u ∈ (mlC s om.dst om.kind om.ballot om.slot (.slice bo om.body.length bc)).toList, u.oneCell' = true := by
          intro u hu
          simp at hu
          rcases hu with rfl | rfl | rfl | rfl | rfl | rfl | rfl | rfl | rfl | rfl | rfl | rfl | rfl <;> rfl
        have hb4 : Below wr.heap.size wr (wr.alloc (.cells (mlC s om.dst om.kind om.ballot om.slot (.slice bo om.body.length bc)) 44)).drew := ((Below.refl _ _).alloc (Nat.le_refl _) _).drew
        have hs4 := hs.out.step hb4
        have HS4 := Lib.hid hs4
        have hB4 : (wr.alloc (.cells (mlC s om.dst om.kind om.ballot om.slot (.slice bo om.body.length bc)) 44)).drew.heap[wr.heap.size]? = some (.cells (mlC s om.dst om.kind om.ballot om.slot (.slice bo om.body.length bc)) 44 (0, 0)) := heap_alloc_new wr _
        have HB4 := Lib.hid hB4
        have c34 := (hs4.clCell 0 rfl).2.2.2.1
        have hw4 := (hs4.get 1 rfl : OwnsSuf (wr.alloc (.cells (mlC s om.dst om.kind om.ballot om.slot (.slice bo om.body.length bc)) 44)).drew 44 13 (.slice mo (M.length + k) mc) (M.length + k) (mailC (M ++ (l.take k).map (fun p => (s, p)))))
        have HW4 := Lib.hid hw4
        have hml : M.length + k ≤ 100000000 := by omega
        have HP := Lib.hid hp
        have HOne := Lib.hid hone
        clear hx0 hra hld hb4 hs4 hB4 hw4 hor hp hone
        go_region_law ((
          (refine step_appS1 rfl (.tmp 25) (.tmp 38) 34 rfl 44 _ 13 136 Tryz.underlying34 Tryz.mailInfo (by kernel_rfl) (by decide) (by decide) rfl rfl HB4.out rfl HW4.out HOne.out hml ?_)
          intro g5 o5 cap5 w5 hown5 hb5 hg5
          have hs5 := HS4.out.set 1 rfl (Keep.grown hb5 (fun k hk => hk)) (obSuf_good (.slice (some ⟨g5, o5, none⟩) (M.length + k + 1) cap5) 44 13 (M.length + k + 1) _) hown5 (fun j hj => by
            have e1 : g5 = j := by simpa [obSuf, Value.ownBlock] using hj
            subst e1
            exact hg5)
          have c35 := (hs5.clCell 0 rfl).2.2.2.1
          have f35 := (hs5.clCell 0 rfl).2.2.2.2 3
          have hs6 := hs5.blkSet 0 rfl 3 (.slice (some ⟨g5, o5, none⟩) (M.length + k + 1) cap5)
          have HS6 : Hid (SepW W (w5.setCell ⟨c, 3, none⟩ (.slice (some ⟨g5, o5, none⟩) (M.length + k + 1) cap5)) (obBlk c (.cells (clC n dv nv (.slice (some ⟨g5, o5, none⟩) (M.length + k + 1) cap5)) 36) :: obSuf (.slice (some ⟨g5, o5, none⟩) (M.length + k + 1) cap5) 44 13 (M.length + k + 1) (mailC (M ++ (l.take k).map (fun p => (s, p))) ++ (mlC s om.dst om.kind om.ballot om.slot (.slice bo om.body.length bc)).toList) :: obRow (.slice (some ⟨g, 0, none⟩) l.length vc) 85 12 l.length (outC l) :: os)) := Lib.hid hs6
          clear hown5 hb5 hg5 hs5 hs6))
        all_goals
          clear hmk hmk2 hbs hld2 c3 c34 c35 f35 cf
          go_wp2_with fail
          go_roundw
          case rel =>
            refine ⟨k + 1, some ⟨g5, o5, none⟩, cap5, by omega, Or.inr (by omega), by go_num, Lib.hid ?_⟩
            have h6 := HS6.out
            rw [← mailC_snoc _ (s, om, .slice bo om.body.length bc)] at h6
            have e1 : M ++ (l.take k).map (fun p => (s, p)) ++ [(s, om, Value.slice bo om.body.length bc)] = M ++ (l.take (k + 1)).map (fun p => (s, p)) := by
              obtain ⟨h1, h2⟩ := List.getElem?_eq_some_iff.1 HP.out
              rw [List.take_succ_eq_append_getElem h1, h2, List.map_append, List.append_assoc]
              rfl
            rw [e1] at h6
            exact h6
          case measure => simp [intOf]; omega
      · have hfull : decide ((M.length : Int) + (k : Int) < 400) = false := decide_eq_false (by omega)
        have hkl : k = 400 - M.length := by omega
        have HKl := Lib.hid hkl
        clear hroom hk4 hkl
        go_wp2_with fail
        first | go_end0 | (refine bodyPost_ret (results_none rfl _ _ _) rfl ?_)
        refine ⟨rfl, .slice mo (M.length + k) mc, ?_⟩
        have e2 : sendM s l M = M ++ (l.take k).map (fun p => (s, p)) := by unfold sendM; rw [← HKl.out]
        rw [e2, show (M ++ (l.take k).map (fun p => (s, p))).length = M.length + k by rw [List.length_append, List.length_map, List.length_take, Nat.min_eq_left (by omega)]]
        exact hs.out
    · have hkl : k = l.length := by omega
      subst hkl
      have hkd : decide ((l.length : Int) < (l.length : Int)) = false := decide_eq_false (by omega)
      have he : sendM s l M = M ++ (l.take l.length).map (fun p => (s, p)) := by
        unfold sendM
        rw [List.take_length, List.take_of_length_le (by rcases hk4 with h | h <;> omega)]
      have HE := Lib.hid he
      clear hlt hk hk4 he
      go_wp2_with fail
      first | go_end0 | (refine bodyPost_ret (results_none rfl _ _ _) rfl ?_)
      refine ⟨rfl, .slice mo (M.length + l.length) mc, ?_⟩
      rw [HE.out, show (M ++ (l.take l.length).map (fun p => (s, p))).length = M.length + l.length by rw [List.length_append, List.length_map, List.take_length]]
      exact hs.out
end
end Go.Proofs.YtgmdedkingampaaGreat

namespace Go.Proofs.YtgmdedkingampaaGreat
open Go.ChangeShapes Go.WideShapes Go.ChangeAt Go.RowKit Go.Maps
set_option maxRecDepth 1000000
set_option linter.unusedVariables false
set_option linter.unusedSimpArgs false

/-- A node: where it lies, and what it is. -/
abbrev Nq := NdA × NdF × Nd
def ndsOs (L : List Nq) : List Ob := L.flatMap (fun p => ndOs p.1 p.2.1 p.2.2 [])
def nodeV (L : List Nq) : List Value := L.map (fun p => .pointer (some ⟨p.1.x, 0, none⟩))
def diskV (L : List Nq) : List Value := L.map (fun p => .pointer (some ⟨p.1.b0, 0, none⟩))
abbrev clOs (c : Nat) (dv nv mv : Value) (L : List Nq) (M : List (Int × Om × Value)) (B : List (Value × List Int)) (os : List Ob) : List Ob :=
  obBlk c (.cells (clC L.length dv nv mv) 36) :: obSuf mv 44 13 M.length (mailC M) :: obRow nv 31 1 L.length (nodeV L) :: obRow dv 53 1 L.length (diskV L) :: obBod B :: (ndsOs L ++ os)
theorem ndsOs_cons (p : Nq) (L : List Nq) : ndsOs (p :: L) = ndOs p.1 p.2.1 p.2.2 (ndsOs L) := rfl
theorem nds_focus {L : List Nq} {i : Nat} {p : Nq} (h : L[i]? = some p) : (ndsOs L).Perm (ndOs p.1 p.2.1 p.2.2 (ndsOs (L.eraseIdx i))) := List.Perm.flatMap_right (fun p : Nq => ndOs p.1 p.2.1 p.2.2 []) (front_perm h)
theorem nds_back {L : List Nq} {i : Nat} {p : Nq} (h : L[i]? = some p) (p' : Nq) : (ndOs p'.1 p'.2.1 p'.2.2 (ndsOs (L.eraseIdx i))).Perm (ndsOs (L.set i p')) := List.Perm.flatMap_right (fun p : Nq => ndOs p.1 p.2.1 p.2.2 []) (set_perm p' h)
section
variable {W w w' : World} {os : List Ob}
theorem SepW.focus {pre : List Ob} {L : List Nq} {i : Nat} {p : Nq} (h : SepW W w (pre ++ (ndsOs L ++ os))) (hi : L[i]? = some p) : SepW W w (ndOs p.1 p.2.1 p.2.2 (pre ++ (ndsOs (L.eraseIdx i) ++ os))) := by
  refine h.perm ?_
  have h1 : (pre ++ (ndsOs L ++ os)).Perm (pre ++ (ndOs p.1 p.2.1 p.2.2 (ndsOs (L.eraseIdx i)) ++ os)) := List.Perm.append_left _ (List.Perm.append_right _ (nds_focus hi))
  have h2 : (pre ++ (ndOs p.1 p.2.1 p.2.2 (ndsOs (L.eraseIdx i)) ++ os)) = pre ++ (ndOs p.1 p.2.1 p.2.2 [] ++ (ndsOs (L.eraseIdx i) ++ os)) := rfl
  rw [h2] at h1
  refine h1.trans ?_
  rw [← List.append_assoc]
  refine (List.Perm.append_right _ List.perm_append_comm).trans ?_
  rw [List.append_assoc]
  exact List.Perm.refl _
theorem SepW.back {fr pre : List Ob} {L : List Nq} {i : Nat} {p : Nq} (hi : L[i]? = some p) {p' : Nq} (h : SepW W w (fr ++ ndOs p'.1 p'.2.1 p'.2.2 (pre ++ (ndsOs (L.eraseIdx i) ++ os)))) : SepW W w (fr ++ (pre ++ (ndsOs (L.set i p') ++ os))) := by
  refine h.perm (List.Perm.append_left _ ?_)
  have h1 : (ndOs p'.1 p'.2.1 p'.2.2 (pre ++ (ndsOs (L.eraseIdx i) ++ os))) = (ndOs p'.1 p'.2.1 p'.2.2 [] ++ pre) ++ (ndsOs (L.eraseIdx i) ++ os) := by rw [List.append_assoc]; rfl
  rw [h1]
  refine (List.Perm.append_right _ List.perm_append_comm).trans ?_
  rw [List.append_assoc]
  refine List.Perm.append_left _ ?_
  exact List.Perm.append_right _ (nds_back hi p')
theorem Held.bod {B : List (Value × List Int)} {bv : Value} {xs : List Int} (i : Nat) (hi : os[i]? = some (obBod B)) (hp : (bv, xs) ∈ B) : Held W os bv (u8s xs) :=
  Held.ob i hi (fun w hw => ((hw : ∀ p ∈ B, SlR w p.1 (u8s p.2) ∧ ∀ k, p.1.ownBlock = some k → k < w.heap.size) _ hp).1) (fun _ k hk => ⟨_, hp, hk⟩)
end
theorem own_cutZ {w : World} {base z : Nat} {e : TypeId} {g n c : Nat} {xs : List Value} (h : w.ownsRow base e z (.slice (some ⟨g, 0, none⟩) n c) n xs) {m : Nat} (hm : m ≤ n) : w.ownsRow base e z (.slice (some ⟨g, 0, none⟩) m c) m (xs.take (m * z)) := by
  obtain ⟨h1, h2⟩ := h
  rcases h2 with ⟨hn, _⟩ | ⟨g', cap, cur, hv, hb, hg, hnc, hcm, hcs, htake⟩
  · cases hn
  · cases hv
    have hmz := Nat.mul_le_mul_right z hm
    refine ⟨by rw [List.length_take]; omega, Or.inr ⟨g, c, cur, rfl, hb, hg, by omega, hcm, hcs, ?_⟩⟩
    rw [← htake, List.take_take, Nat.min_eq_left hmz]
theorem mailC_len (M : List (Int × Om × Value)) : (mailC M).length = M.length * 13 := by
  induction M with
  | nil => rfl
  | cons p r ih =>
    have e : mailC (p :: r) = (mlC p.1 p.2.1.dst p.2.1.kind p.2.1.ballot p.2.1.slot p.2.2).toList ++ mailC r := by simp [mailC]
    rw [e, List.length_append, ih, show (p :: r).length = r.length + 1 from rfl]
    rw [show (mlC p.1 p.2.1.dst p.2.1.kind p.2.1.ballot p.2.1.slot p.2.2).toList.length = 13 from rfl]
    omega
theorem mailC_app (a b : List (Int × Om × Value)) : mailC (a ++ b) = mailC a ++ mailC b := List.flatMap_append
theorem mailC_take (M : List (Int × Om × Value)) {k : Nat} (hk : k ≤ M.length) : (mailC M).take (k * 13) = mailC (M.take k) := by
  conv => lhs; rw [← List.take_append_drop k M]
  rw [mailC_app, List.take_append_of_le_length (by rw [mailC_len, List.length_take, Nat.min_eq_left hk]; exact Nat.le_refl _), List.take_of_length_le (by rw [mailC_len, List.length_take, Nat.min_eq_left hk]; exact Nat.le_refl _)]
theorem mailC_drop (M : List (Int × Om × Value)) {k : Nat} (hk : k ≤ M.length) : (mailC M).drop (k * 13) = mailC (M.drop k) := by
  conv => lhs; rw [← List.take_append_drop k M]
  rw [mailC_app, List.drop_append_of_le_length (by rw [mailC_len, List.length_take, Nat.min_eq_left hk]; exact Nat.le_refl _), List.drop_of_length_le (by rw [mailC_len, List.length_take, Nat.min_eq_left hk]; exact Nat.le_refl _), List.nil_append]
theorem mailC_at {M : List (Int × Om × Value)} {k : Nat} {p : Int × Om × Value} (h : M[k]? = some p) (j : Nat) (hj : j < 13) : (mailC M)[k * 13 + j]? = (mlC p.1 p.2.1.dst p.2.1.kind p.2.1.ballot p.2.1.slot p.2.2).toList[j]? := by
  obtain ⟨h1, h2⟩ := List.getElem?_eq_some_iff.1 h
  have h3 := mailC_drop M (k := k) (by omega)
  rw [← List.getElem?_drop, h3, List.drop_eq_getElem_cons h1, h2]
  have e : mailC (p :: M.drop (k + 1)) = (mlC p.1 p.2.1.dst p.2.1.kind p.2.1.ballot p.2.1.slot p.2.2).toList ++ mailC (M.drop (k + 1)) := by simp [mailC]
  rw [e, List.getElem?_append_left (by simpa using hj)]
/-- What 'append(out, src...)' leaves, src cells that are read at an address. -/
theorem wpList_appAt {P : Program} {w : World} {ops : Array Oper} {rest : List Oper} {o : Oper} {a : Act} {Q : Exit → Act → World → Prop} (hgd : o.guard = none) (s x : Operand) (t : TypeId)
    (ho : o.op = .call { callee := .builtin .append, args := #[s, x], argTypes := #[t, t] })
    (base : Nat) (e : TypeId) (z : Value) (size bytes : Nat) (ht : P.underlying t = some (.slice e)) (hie : (P.info? e).map (fun i => (i.zero, i.size, i.bytes)) = some (some z, size, bytes))
    (hzs : z.cells.size = size) (hsz : 0 < size) (hb24 : bytes ≤ 1024)
    {v : Value} {n m c : Nat} {ad : Addr} {xs cs : List Value} (hs : a.eval s = v) (hx : a.eval x = .slice (some ad) m c) (hown : w.ownsRow base e size v n xs) (hl : cs.length = m * size) (hcs : ∀ j u, cs[j]? = some u → w.cell? (ad.add j) = some u) (hu : ∀ u ∈ cs, u.oneCell' = true)
    (hlen : n + m ≤ 1000000000) (hbase : base ≤ w.heap.size)
    (h : ∀ v' w', w'.ownsRow base e size v' (n + m) (xs ++ cs) → w.grownBy w' v.ownBlock → (∀ g, v'.ownBlock = some g → v.ownBlock = some g ∨ w.heap.size ≤ g) → wpList P ops Q rest (a.put o.dst v') w') : wpList P ops Q (o :: rest) a w :=
  wpList_plain hgd fun _ hK => by
    obtain ⟨i, hi, hz⟩ := Option.map_eq_some_iff.1 hie
    simp only [Prod.mk.injEq] at hz
    obtain ⟨hz0, hz1, hz2⟩ := hz
    obtain ⟨v', w', hr, h2, h3, _, h5⟩ := run_append_own_at (P := P) w base t o.type e i z size bytes ht hi hz0 hz1 hz2 hzs hsz v n xs hown ad m c cs hl hcs hu (by unfold maxLen; omega) (by have := Nat.mul_le_mul_left (n + m) hb24; omega) hbase
    unfold Oper.wp execOp
    simp only [ho, resolve, invoke, builtin, Sem.run_bind, Sem.run_pure, Result.andThen_ok, List.map_toArray, List.map_cons, List.map_nil, hs, hx, hr]
    exact hK _ _ (h v' w' h2 h3 (fun g hg => by
      rcases h5 with h5 | h5
      · left; rw [← h5]; exact hg
      · right; rw [h5] at hg; cases hg; exact Nat.le_refl _))
end Go.Proofs.YtgmdedkingampaaGreat
