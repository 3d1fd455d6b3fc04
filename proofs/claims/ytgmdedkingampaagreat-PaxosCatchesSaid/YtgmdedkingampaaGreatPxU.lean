/-
  Law 17: a message comes.
-/
import Derived.Test.YtgmdedkingampaaGreatPxT
set_option linter.unusedVariables false
set_option linter.unusedSimpArgs false
namespace Go.Proofs.YtgmdedkingampaaGreat
open Go.ChangeShapes Go.WideShapes Go.ChangeAt Go.RowKit Go.Maps
set_option maxRecDepth 1000000
set_option linter.unusedVariables false
set_option linter.unusedSimpArgs false

/-- A message that may come. -/
structure OmOk (Mb : Nat) (m : Om) : Prop where
  ub : U1 m.ballot
  us : U1 m.slot
  u8 : U8 m.body
  len : m.body.length ≤ Mb
  kind : -9223372036854775808 ≤ m.kind ∧ m.kind ≤ 9223372036854775807
/-- Messages that go, by what they are. -/
def sendO (s : Int) (l : List Om) (ms : List (Int × Om)) : List (Int × Om) := ms ++ (l.take (400 - ms.length)).map (fun o => (s, o))
def mOf (M : List (Int × Om × Value)) : List (Int × Om) := M.map (fun p => (p.1, p.2.1))
def xOf (L : List Nq) : List Nd := L.map (fun p => p.2.2)
theorem mOf_send (s : Int) (l : List (Om × Value)) (M : List (Int × Om × Value)) : mOf (sendM s l M) = sendO s (l.map Prod.fst) (mOf M) := by
  unfold mOf sendM sendO
  rw [List.map_append, List.length_map, ← List.map_take, List.map_map, List.map_map]
  rfl
/-- What the coming of a message makes of a cluster. -/
def DelR (xs : List Nd) (ms : List (Int × Om)) (i : Nat) (twice : Bool) (xs' : List Nd) (ms' : List (Int × Om)) : Prop :=
  (ms = [] ∧ xs' = xs ∧ ms' = ms) ∨ (∃ p, ms[i % ms.length]? = some p ∧
    ((¬ (0 ≤ p.2.dst ∧ p.2.dst < xs.length) ∧ xs' = xs ∧ ms' = (if twice then ms else ms.eraseIdx (i % ms.length))) ∨
     (∃ (j : Nat) (x y : Nd) (outs : List Om), p.2.dst = (j : Int) ∧ xs[j]? = some x ∧ HandleR x p.1 p.2.kind p.2.ballot p.2.slot p.2.body y outs ∧ xs' = xs.set j y ∧
       ms' = sendO p.2.dst outs (if twice then ms else ms.eraseIdx (i % ms.length)))))
theorem bod_form {B : List (Value × List Int)} {w : World} (h : (obBod B).inv w) {v : Value} {xs : List Int} (hp : (v, xs) ∈ B) : ∃ bo bc, v = .slice bo xs.length bc := by
  obtain ⟨bo, bc, e, _⟩ := ((h : ∀ p ∈ B, SlR w p.1 (u8s p.2) ∧ ∀ k, p.1.ownBlock = some k → k < w.heap.size) _ hp).1.form
  rw [List.length_map] at e
  exact ⟨bo, bc, e⟩
theorem map_eraseIdx' {α β : Type} (f : α → β) (l : List α) (j : Nat) : (l.eraseIdx j).map f = (l.map f).eraseIdx j := by
  rw [List.eraseIdx_eq_take_drop_succ, List.eraseIdx_eq_take_drop_succ, List.map_append, List.map_take, List.map_drop]
theorem map_set_same {α β : Type} {L : List α} {i : Nat} {p p' : α} (f : α → β) (hi : L[i]? = some p) (h : f p' = f p) : (L.set i p').map f = L.map f := by
  rw [List.map_set, h]
  obtain ⟨h1, h2⟩ := List.getElem?_eq_some_iff.1 hi
  subst h2
  apply List.ext_getElem (by simp)
  intro k hk1 hk2
  rw [List.getElem_set]
  split
  · rename_i e; subst e; simp
  · rfl
def moZ : Mo := ⟨.int .i64 0, .int .i64 0, .int .u64 0, .int .u64 0, .int .u64 0, .int .i64 0, .slice none 0 0⟩
theorem mlC_one (s t k b l : Int) (bo : Option Addr) (n c : Nat) : ∀ u ∈ (mlC s t k b l (.slice bo n c)).toList, u.oneCell' = true := by
  intro u hu
  simp at hu
  rcases hu with rfl | rfl | rfl | rfl | rfl | rfl | rfl | rfl | rfl | rfl | rfl | rfl | rfl <;> rfl
theorem mailC_one0 {M : List (Int × Om × Value)} (hf : ∀ p ∈ M, ∃ bo bc, p.2.2 = .slice bo p.2.1.body.length bc) : ∀ u ∈ mailC M, u.oneCell' = true := by
  intro u hu
  obtain ⟨p, hp, hu⟩ := List.mem_flatMap.1 hu
  obtain ⟨bo, bc, e⟩ := hf p hp
  rw [e] at hu
  exact mlC_one _ _ _ _ _ _ _ _ u hu
theorem mailC_one {M : List (Int × Om × Value)} (hf : ∀ p ∈ M, ∃ bo bc, p.2.2 = .slice bo p.2.1.body.length bc) : (∀ j, ∀ u ∈ mailC (M.take j), u.oneCell' = true) ∧ ∀ j, ∀ u ∈ mailC (M.drop j), u.oneCell' = true :=
  ⟨fun j => mailC_one0 (fun p hp => hf p (List.mem_of_mem_take hp)), fun j => mailC_one0 (fun p hp => hf p (List.mem_of_mem_drop hp))⟩
section
variable {W w w' : World} {os : List Ob}
theorem SepW.suf2 {a b : Ob} {v : Value} {e : TypeId} {z n : Nat} {xs : List Value} (h : SepW W w (a :: b :: obRow v e z n xs :: os)) : SepW W w (a :: b :: obSuf v e z n xs :: os) :=
  h.set 2 rfl (Keep.refl _ _) (obSuf_good ..) (OwnsSuf.of (h.get 2 rfl : w.ownsRow 0 e z v n xs)) (fun k hk => Or.inl hk)
theorem SepW.suf1 {a : Ob} {v : Value} {e : TypeId} {z n : Nat} {xs : List Value} (h : SepW W w (a :: obRow v e z n xs :: os)) : SepW W w (a :: obSuf v e z n xs :: os) :=
  h.set 1 rfl (Keep.refl _ _) (obSuf_good ..) (OwnsSuf.of (h.get 1 rfl : w.ownsRow 0 e z v n xs)) (fun k hk => Or.inl hk)
attribute [local go_sem ↓] ex_rowLoad ex_rowStore
set_option maxHeartbeats 4000000 in
theorem cl_deliver {Mb c : Nat} {dv nv mv : Value} {L : List Nq} {M : List (Int × Om × Value)} {B : List (Value × List Int)} (h : SepW W w (clOs c dv nv mv L M B os))
    (hB : ∀ p ∈ M, (p.2.2, p.2.1.body) ∈ B) (hM : M.length ≤ 400) (hO : ∀ p ∈ M, OmOk Mb p.2.1) (hN : ∀ p ∈ L, p.2.2.e = 0 → NdOk p.2.2 Mb) (hL : L.length ≤ 100) (i : Nat) (hi : i ≤ 1000000) (twice : Bool) :
    Calls Tryz.prog 13 #[.pointer (some ⟨c, 0, none⟩), .int .i64 i, .bool twice] w fun e w' => e = .returned (.tuple #[]) ∧ ∃ (mv' : Value) (L' : List Nq) (M' : List (Int × Om × Value)) (B' : List (Value × List Int)),
      SepW W w' (clOs c dv nv mv' L' M' B' os) ∧ (∀ p ∈ M', (p.2.2, p.2.1.body) ∈ B') ∧ DelR (xOf L) (mOf M) i twice (xOf L') (mOf M') ∧ L'.map Prod.fst = L.map Prod.fst := by
  have hf : ∀ p ∈ M, ∃ bo bc, p.2.2 = .slice bo p.2.1.body.length bc := fun p hp => bod_form (h.get 4 rfl : (obBod B).inv w) (hB p hp)
  obtain ⟨mo, mc, rfl, hmc, hmc2⟩ := (h.get 1 rfl : OwnsSuf w 44 13 mv M.length (mailC M)).form
  have H := Lib.hid h
  have HB := Lib.hid hB
  have HF := Lib.hid hf
  have HO := Lib.hid hO
  have HN := Lib.hid hN
  obtain ⟨c0, -, c2, c3, cf⟩ := h.clCell 0 rfl
  clear h hB hf hO hN
  by_cases hm0 : M = []
  · subst hm0
    go_enter Tryz.func13, Tryz.ntmps13
    go_wp2_with fail
    first | go_end0 | (refine bodyPost_ret (results_none rfl _ _ _) rfl ?_)
    exact ⟨rfl, _, L, [], B, H.out, HB.out, Or.inl ⟨rfl, rfl, rfl⟩, rfl⟩
  · have hml : 0 < M.length := List.length_pos_iff.2 hm0
    have hmz : ((M.length : Int) == 0) = false := beq_eq_false_iff_ne.2 (by omega)
    obtain ⟨j, hj⟩ : ∃ j, i % M.length = j := ⟨_, rfl⟩
    have hjl : j < M.length := by rw [← hj]; exact Nat.mod_lt _ hml
    have hrem : ((i : Int) % (M.length : Int)) = (j : Int) := by rw [← hj]; omega
    obtain ⟨p, hp⟩ : ∃ p, M[j]? = some p := ⟨_, List.getElem?_eq_getElem hjl⟩
    obtain ⟨bo, bc, hpe⟩ := HF.out p (List.mem_of_getElem? hp)
    obtain ⟨src, om, pb⟩ := p
    simp only at hpe
    subst hpe
    have HJ := Lib.hid hj
    have HP := Lib.hid hp
    have hor : OwnsSuf w 44 13 (.slice mo M.length mc) M.length (mailC M) := H.out.get 1 rfl
    obtain ⟨g, o, rfl⟩ : ∃ g o, mo = some ⟨g, o, none⟩ := by
      obtain ⟨g, o, c, e, _⟩ := hor.form1 hml
      cases e
      exact ⟨g, o, rfl⟩
    have hmk : RowMark 44 := ⟨trivial⟩
    have hra : w.rangeAt g (o + j * 13) (mlC src om.dst om.kind om.ballot om.slot (.slice bo om.body.length bc)).toList := fun t u ht => by
      have ht13 : t < 13 := by have := (List.getElem?_eq_some_iff.1 ht).1; simpa using this
      have h1 := mailC_at hp t ht13
      rw [ht] at h1
      have h2 := hor.cells h1
      rwa [← Nat.add_assoc] at h2
    have hld := run_rowLoad (P := Tryz.prog) (w := w) 44 g (o + j * 13) (mlC src om.dst om.kind om.ballot om.slot (.slice bo om.body.length bc)).toList _ hra Tryz.underlying44 rfl (by kernel_rfl)
    have hld2 : (rowLoad 44 (.pointer (some ⟨g, o + j * 13, none⟩))).run Tryz.prog w = .ok (.agg (mlC src om.dst om.kind om.ballot om.slot (.slice bo om.body.length bc))) w := hld
    have hST := run_rowStoreB (P := Tryz.prog) 44 w.heap.size (mlC src om.dst om.kind om.ballot om.slot (.slice bo om.body.length bc)) 44 _ (heap_alloc_new w (.cells (mlC 0 0 0 0 0 (.slice none 0 0)) 44)) (by kernel_rfl) rfl (by kernel_rfl)
    rw [setRow_alloc] at hST
    clear hra hld hp hj hor hm0
    go_enter Tryz.func13, Tryz.ntmps13
    go_upto_if 30 with fail
    rw [hrem]
    have hs1 := H.out.newBlk (mlC src om.dst om.kind om.ballot om.slot (.slice bo om.body.length bc)) 44
    have HS1 := Lib.hid hs1
    generalize (w.alloc (.cells (mlC src om.dst om.kind om.ballot om.slot (.slice bo om.body.length bc)) 44)) = W1 at *
    generalize w.heap.size = V at *
    clear hs1 H c0 c2 c3 cf hld2 hST hmk
    obtain ⟨M1, hM1⟩ : ∃ M1, M1 = if twice = true then M else M.eraseIdx j := ⟨_, rfl⟩
    have HM1 := Lib.hid hM1
    clear hM1
    go_cut [8] from 9 (fun _ wc => ∃ mv', SepW W wc (obBlk V (.cells (mlC src om.dst om.kind om.ballot om.slot (.slice bo om.body.length bc)) 44) :: clOs c dv nv mv' L M1 B os))
    case first =>
      cases twice
      · have e1 : M1 = M.take j ++ M.drop (j + 1) := by rw [HM1.out, if_neg (by simp), List.eraseIdx_eq_take_drop_succ]
        have HE1 := Lib.hid e1
        obtain ⟨-, -, -, c3, -⟩ := HS1.out.clCell 1 rfl
        have hor : OwnsSuf W1 44 13 (.slice (some ⟨g, o, none⟩) M.length mc) M.length (mailC M) := HS1.out.get 2 rfl
        have hcut1 : ∀ t u, (mailC (M.take j))[t]? = some u → W1.cell? ((⟨g, o, none⟩ : Addr).add t) = some u := fun t u ht => by
          rw [Addr.add_lit]
          refine hor.cells ?_
          rw [← mailC_take M (by omega)] at ht
          rwa [List.getElem?_take_of_lt (by have := (List.getElem?_eq_some_iff.1 ht).1; rw [List.length_take] at this; omega)] at ht
        have HCs1 := Lib.hid hcut1
        have HOn1 := Lib.hid (mailC_one (M := M) HF.out)
        have hlen1 : (mailC (M.take j)).length = j * 13 := by rw [mailC_len, List.length_take, Nat.min_eq_left (by omega)]
        have hlen2 : (mailC (M.drop (j + 1))).length = (M.length - (j + 1)) * 13 := by rw [mailC_len, List.length_drop]
        obtain ⟨ad, hite, had⟩ : ∃ ad : Addr, (if mc = j + 1 then (some ⟨g, o, none⟩ : Option Addr) else some ⟨g, o + (j + 1) * 13, none⟩) = some ad ∧ (ad = ⟨g, o + (j + 1) * 13, none⟩ ∨ M.length ≤ j + 1) := by
          by_cases hc : mc = j + 1
          · exact ⟨_, if_pos hc, Or.inr (by omega)⟩
          · exact ⟨_, if_neg hc, Or.inl rfl⟩
        have HAd := Lib.hid had
        clear e1 hcut1 hor had
        go_wp2_with (first
          | (at_builtin; (refine wpList_appAt rfl (.tmp 31) (.tmp 37) 34 rfl W1.heap.size 44 _ 13 136 Tryz.underlying34 Tryz.mailInfo (by kernel_rfl) (by decide) (by decide) (xs := []) (cs := mailC (M.take j)) (n := 0) (m := j) (ad := ⟨g, o, none⟩) rfl rfl (World.ownsRow_nil _ _ _ _) hlen1 HCs1.out (fun u hu => HOn1.out.1 j u hu) (by omega) (Nat.le_refl _) ?_)
             intro v2 w2 ho2 hg2 hl2
             have hs2 := HS1.out.newRow ho2 ((Below.refl _ _).grown hg2 (Nat.le_refl _) (fun k hk => by cases hk))
             have c32 := (hs2.clCell 2 rfl).2.2.2.1
             have HS2 := Lib.hid hs2
             have hor2 : OwnsSuf w2 44 13 (.slice (some ⟨g, o, none⟩) M.length mc) M.length (mailC M) := hs2.get 3 rfl
             have hcut2 : ∀ ad : Addr, (ad = ⟨g, o + (j + 1) * 13, none⟩ ∨ M.length ≤ j + 1) → ∀ t u, (mailC (M.drop (j + 1)))[t]? = some u → w2.cell? (ad.add t) = some u := fun ad had t u ht => by
               have h1 := ht
               rcases had with rfl | had
               · rw [← mailC_drop M (by omega), List.getElem?_drop] at h1
                 have h2 := hor2.cells h1
                 rw [Addr.add_lit, Nat.add_assoc]
                 exact h2
               · rw [List.drop_of_length_le had] at h1
                 cases h1
             have HCs2 := Lib.hid hcut2
             have HO2 := Lib.hid (hs2.get 0 rfl : w2.ownsRow 0 44 13 v2 (0 + j) ([] ++ mailC (M.take j)))
             clear ho2 hg2 hl2 hs2 hor2 hcut2)
          | (at_builtin; (refine wpList_appAt rfl (.tmp 40) (.tmp 47) 34 rfl 0 44 _ 13 136 Tryz.underlying34 Tryz.mailInfo (by kernel_rfl) (by decide) (by decide) (cs := mailC (M.drop (j + 1))) (m := M.length - (j + 1)) (ad := ad) rfl rfl HO2.out hlen2 (HCs2.out ad HAd.out) (fun u hu => HOn1.out.2 (j + 1) u hu) (by omega) (Nat.zero_le _) ?_)
             intro v3 w3 ho3 hg3 hl3
             obtain ⟨ao3, cc3, rfl, -, -⟩ := own_form ho3
             have hs3 := HS2.out.rowSet 0 rfl hg3 hl3 ho3
             have c33 := (hs3.clCell 2 rfl).2.2.2.1
             have f33 := (hs3.clCell 2 rfl).2.2.2.2 3
             have hs4 := hs3.blkSet 2 rfl 3 (.slice ao3 (0 + j + (M.length - (j + 1))) cc3)
             have HS4 := Lib.hid hs4
             clear ho3 hg3 hl3 hs3 hs4)
          | fail)
        all_goals
          go_meet
          case rel =>
            have h5 : SepW W (w3.setCell ⟨c, 3, none⟩ (.slice ao3 (0 + j + (M.length - (j + 1))) cc3)) (obRow (.slice ao3 (0 + j + (M.length - (j + 1))) cc3) 44 13 (0 + j + (M.length - (j + 1))) ([] ++ mailC (M.take j) ++ mailC (M.drop (j + 1))) :: obBlk V (.cells (mlC src om.dst om.kind om.ballot om.slot (.slice bo om.body.length bc)) 44) :: obBlk c (.cells (clC L.length dv nv (.slice ao3 (0 + j + (M.length - (j + 1))) cc3)) 36) :: obSuf (.slice (some ⟨g, o, none⟩) M.length mc) 44 13 M.length (mailC M) :: obRow nv 31 1 L.length (nodeV L) :: obRow dv 53 1 L.length (diskV L) :: obBod B :: (ndsOs L ++ os)) := HS4.out
            rw [List.nil_append, ← mailC_app, ← HE1.out, show 0 + j + (M.length - (j + 1)) = M1.length by rw [HE1.out, List.length_append, List.length_take, List.length_drop, Nat.min_eq_left (by omega)]; omega] at h5
            have h6 := SepW.mid (pre := [_, _]) h5
            have h7 := SepW.dropB (pre := [_, _, _]) (l := [_]) h6
            have hle : j + (M.length - (j + 1)) = M1.length := by rw [HE1.out, List.length_append, List.length_take, List.length_drop, Nat.min_eq_left (by omega)]
            rw [hle]
            exact ⟨_, SepW.suf2 h7⟩
      · go_wp2_with fail
        go_meet
        case rel => exact ⟨_, by have e := HM1.out; simp only [if_true] at e; rw [e]; exact HS1.out⟩
    case rest =>
      obtain ⟨mv', hs⟩ := hcut
      have HS := Lib.hid hs
      have hsub : ∀ p ∈ M1, p ∈ M := fun p hp => by
        have e := HM1.out
        rw [e] at hp
        split at hp
        · exact hp
        · exact List.mem_of_mem_eraseIdx hp
      have hm1 : M1.length ≤ 400 := by
        have e := HM1.out
        rw [e]
        split
        · exact hM
        · exact Nat.le_trans (List.length_eraseIdx_le ..) hM
      have hmo : mOf M1 = if twice = true then mOf M else (mOf M).eraseIdx (i % (mOf M).length) := by
        have e := HM1.out
        have hl : (mOf M).length = M.length := List.length_map ..
        rw [e, hl, HJ.out]
        split
        · rfl
        · exact map_eraseIdx' _ _ _
      have hat : (mOf M)[i % (mOf M).length]? = some (src, om) := by
        have hl : (mOf M).length = M.length := List.length_map ..
        rw [hl, HJ.out]
        unfold mOf
        rw [List.getElem?_map, HP.out]
        rfl
      have HSub := Lib.hid hsub
      have HMo := Lib.hid hmo
      have HAt := Lib.hid hat
      clear hs HS1 hsub hmo hat
      have hbV : wc.heap[V]? = some (.cells (mlC src om.dst om.kind om.ballot om.slot (.slice bo om.body.length bc)) 44 (0, 0)) := HS.out.get 0 rfl
      have v0 : wc.cell? ⟨V, 0, none⟩ = some (.int .i64 src) := by simp [World.cell?, hbV]
      have v1 : wc.cell? ⟨V, 1, none⟩ = some (.int .i64 om.dst) := by simp [World.cell?, hbV]
      obtain ⟨c0, -, c2, -, -⟩ := HS.out.clCell 1 rfl
      clear hbV
      by_cases hin : 0 ≤ om.dst ∧ om.dst < (L.length : Int)
      · have hd0 : decide (0 ≤ om.dst) = true := decide_eq_true hin.1
        have hdn : decide (om.dst < (L.length : Int)) = true := decide_eq_true hin.2
        have HIn := Lib.hid hin
        clear hin
        go_wp2_with fail
        go_quiet (fail)
        have HSd := Lib.hid (HS.out.drewN nq)
        generalize wc.drewN nq = wd at *
        clear HS v0 v1 c0 c2 hd0 hdn
        obtain ⟨jd, hjd⟩ : ∃ jd : Nat, om.dst = (jd : Int) := ⟨om.dst.toNat, by have := HIn.out.1; omega⟩
        have hjl2 : jd < L.length := by have := HIn.out.2; omega
        have hjl3 : (jd : Int) < (L.length : Int) := by omega
        obtain ⟨p, hp⟩ : ∃ p, L[jd]? = some p := ⟨_, List.getElem?_eq_getElem hjl2⟩
        obtain ⟨qd, fd, xd⟩ := p
        have hok := HO.out _ (List.mem_of_getElem? HP.out)
        have hnd := HN.out _ (List.mem_of_getElem? hp)
        have hbm := HB.out _ (List.mem_of_getElem? HP.out)
        have hfoc := SepW.focus (pre := [_, _, _, _, _, _]) HSd.out.drew hp
        have HHd := Lib.hid (nd_handle (M := Mb) hfoc hnd (k := om.kind) (b := om.ballot) (s := om.slot) moZ (bv := .slice bo om.body.length bc) (xs := om.body) src hok.ub hok.us (Held.bod 5 rfl hbm) hok.u8 hok.len hok.kind)
        have HPd := Lib.hid hp
        have HJd := Lib.hid hjd
        obtain ⟨no, nc, hnv, hnc, hnc2⟩ := own_form (HSd.out.get 3 rfl : wd.ownsRow 0 31 1 nv L.length (nodeV L))
        subst hnv
        have hnr : wd.ownsRow 0 31 1 (.slice no L.length nc) L.length (nodeV L) := HSd.out.get 3 rfl
        obtain ⟨gn, rfl⟩ : ∃ gn, no = some ⟨gn, 0, none⟩ := by
          rcases hnr.2 with ⟨e, h0⟩ | ⟨gn, cap, _, e, _⟩
          · omega
          · cases e; exact ⟨gn, rfl⟩
        have hnvj : (nodeV L)[jd]? = some (.pointer (some ⟨qd.x, 0, none⟩)) := by unfold nodeV; rw [List.getElem?_map, hp]; rfl
        have HNvj := Lib.hid hnvj
        have n0 : wd.cell? ⟨gn, jd, none⟩ = some (.pointer (some ⟨qd.x, 0, none⟩)) := by rw [hnr.cellAt jd (by omega)]; exact hnvj
        have hld : ∀ w' : World, w'.heap[V]? = some (.cells (mlC src om.dst om.kind om.ballot om.slot (.slice bo om.body.length bc)) 44 (0, 0)) → (rowLoad 42 (.pointer (some ⟨V, 2, none⟩))).run Tryz.prog w' = .ok (.agg (msC om.kind om.ballot om.slot moZ (.slice bo om.body.length bc))) w' := fun w' hS => by
          have h9 := run_rowLoad (P := Tryz.prog) (w := w') 42 V 2 (msC om.kind om.ballot om.slot moZ (.slice bo om.body.length bc)).toList _ (fun t u ht => by
            have h := World.news_of_block hS (2 + t) u (by rw [← ht]; rw [show 2 + t = t + 2 by omega]; rfl)
            rwa [Addr.add_mid, Nat.zero_add] at h) Tryz.underlying42 rfl (by kernel_rfl)
          exact h9
        have HLd := Lib.hid hld
        have hbV : wd.heap[V]? = some (.cells (mlC src om.dst om.kind om.ballot om.slot (.slice bo om.body.length bc)) 44 (0, 0)) := HSd.out.get 0 rfl
        have hld0 : (rowLoad 42 (.pointer (some ⟨V, 2, none⟩))).run Tryz.prog wd.drew = .ok (.agg (msC om.kind om.ballot om.slot moZ (.slice bo om.body.length bc))) wd.drew := hld _ (HSd.out.drew.get 0 rfl)
        have v0 : wd.cell? ⟨V, 0, none⟩ = some (.int .i64 src) := by simp [World.cell?, hbV]
        have v1 : wd.cell? ⟨V, 1, none⟩ = some (.int .i64 jd) := by rw [← hjd]; simp [World.cell?, hbV]
        obtain ⟨-, -, c2, -, -⟩ := HSd.out.clCell 1 rfl
        have hmk : RowMark 42 := ⟨trivial⟩
        clear hok hnd hbm hfoc hp hjd hnr hnvj hld hbV
        go_wp2_with fail
        go_region_held3 (fun w' => w'.cell? ⟨V, 0, none⟩ = some (.int .i64 src) ∧ w'.cell? ⟨V, 1, none⟩ = some (.int .i64 jd) ∧ w'.cell? ⟨c, 2, none⟩ = some (.slice (some ⟨gn, 0, none⟩) L.length nc) ∧ w'.cell? ⟨gn, jd, none⟩ = some (.pointer (some ⟨qd.x, 0, none⟩)) ∧ (rowLoad 42 (.pointer (some ⟨V, 2, none⟩))).run Tryz.prog w' = .ok (.agg (msC om.kind om.ballot om.slot moZ (.slice bo om.body.length bc))) w') (first | with_reducible exact hS8 | with_reducible exact hS9 | go_keep)
          (first
            | (go_at_call 19; (with_reducible refine HHd.out.mono ?_); rintro e w8 ⟨y, ms, hhr, v8, l8, f8, rfl, hl8, hs8⟩
               have hb8 : SepW W w8 (obRow v8 85 12 l8.length (outC l8) :: obBod (l8.map fun p => (p.2, p.1.body)) :: obBlk V (.cells (mlC src om.dst om.kind om.ballot om.slot (.slice bo om.body.length bc)) 44) :: obBlk c (.cells (clC L.length dv (.slice (some ⟨gn, 0, none⟩) L.length nc) mv') 36) :: obSuf mv' 44 13 M1.length (mailC M1) :: obRow (.slice (some ⟨gn, 0, none⟩) L.length nc) 31 1 L.length (nodeV L) :: obRow dv 53 1 L.length (diskV L) :: obBod B :: (ndsOs (L.set jd (qd, f8, y)) ++ os)) := SepW.back (fr := [_, _]) (pre := [_, _, _, _, _, _]) HPd.out (p' := (qd, f8, y)) hs8
               have hbV8 : w8.heap[V]? = some (.cells (mlC src om.dst om.kind om.ballot om.slot (.slice bo om.body.length bc)) 44 (0, 0)) := hb8.get 2 rfl
               have hS8 : w8.cell? ⟨V, 0, none⟩ = some (.int .i64 src) ∧ w8.cell? ⟨V, 1, none⟩ = some (.int .i64 jd) ∧ w8.cell? ⟨c, 2, none⟩ = some (.slice (some ⟨gn, 0, none⟩) L.length nc) ∧ w8.cell? ⟨gn, jd, none⟩ = some (.pointer (some ⟨qd.x, 0, none⟩)) ∧ (rowLoad 42 (.pointer (some ⟨V, 2, none⟩))).run Tryz.prog w8 = .ok (.agg (msC om.kind om.ballot om.slot moZ (.slice bo om.body.length bc))) w8 :=
                 ⟨by simp [World.cell?, hbV8], by rw [← HJd.out]; simp [World.cell?, hbV8], (hb8.clCell 3 rfl).2.2.1, by rw [(hb8.get 5 rfl : w8.ownsRow 0 31 1 (.slice (some ⟨gn, 0, none⟩) L.length nc) L.length (nodeV L)).cellAt jd (by omega)]; exact HNvj.out, HLd.out _ hbV8⟩
               have hf8 : ∀ p ∈ l8, ∃ bo bc, p.2 = .slice bo p.1.body.length bc := fun p hp => bod_form (hb8.get 1 rfl : (obBod _).inv w8) (List.mem_map.2 ⟨p, hp, rfl⟩)
               have hq1 := hb8.pull 4 rfl
               have hq2 := hq1.pull 4 rfl
               have HSn := Lib.hid (cl_send (c := c) (n := (L.length : Int)) (s := (jd : Int)) (dv := dv) (nv := .slice (some ⟨gn, 0, none⟩) L.length nc) (mv := mv') (v := v8) (M := M1) (l := l8) (ovs := []) hq2 hf8 hm1)
               have HHr := Lib.hid hhr
               have HL8 := Lib.hid hl8
               clear hs8 hb8 hbV8 hf8 hq1 hq2 hhr hl8)
            | (go_at_call 12; (with_reducible refine HSn.out.mono ?_); rintro e w9 ⟨rfl, mv9, hs9⟩
               have hb9 : SepW W w9 (obBlk c (.cells (clC L.length dv (.slice (some ⟨gn, 0, none⟩) L.length nc) mv9) 36) :: obSuf mv9 44 13 (sendM jd l8 M1).length (mailC (sendM jd l8 M1)) :: obRow v8 85 12 l8.length (outC l8) :: obBod (l8.map fun p => (p.2, p.1.body)) :: obBlk V (.cells (mlC src om.dst om.kind om.ballot om.slot (.slice bo om.body.length bc)) 44) :: obRow (.slice (some ⟨gn, 0, none⟩) L.length nc) 31 1 L.length (nodeV L) :: obRow dv 53 1 L.length (diskV L) :: obBod B :: (ndsOs (L.set jd (qd, f8, y)) ++ os)) := hs9
               have hbV9 : w9.heap[V]? = some (.cells (mlC src om.dst om.kind om.ballot om.slot (.slice bo om.body.length bc)) 44 (0, 0)) := hb9.get 4 rfl
               have hS9 : w9.cell? ⟨V, 0, none⟩ = some (.int .i64 src) ∧ w9.cell? ⟨V, 1, none⟩ = some (.int .i64 jd) ∧ w9.cell? ⟨c, 2, none⟩ = some (.slice (some ⟨gn, 0, none⟩) L.length nc) ∧ w9.cell? ⟨gn, jd, none⟩ = some (.pointer (some ⟨qd.x, 0, none⟩)) ∧ (rowLoad 42 (.pointer (some ⟨V, 2, none⟩))).run Tryz.prog w9 = .ok (.agg (msC om.kind om.ballot om.slot moZ (.slice bo om.body.length bc))) w9 :=
                 ⟨by simp [World.cell?, hbV9], by rw [← HJd.out]; simp [World.cell?, hbV9], (hb9.clCell 0 rfl).2.2.1, by rw [(hb9.get 5 rfl : w9.ownsRow 0 31 1 (.slice (some ⟨gn, 0, none⟩) L.length nc) L.length (nodeV L)).cellAt jd (by omega)]; exact HNvj.out, HLd.out _ hbV9⟩
               have HS9 := Lib.hid hb9
               clear hs9 hb9 hbV9)
            | fail)
        all_goals
          clear hmk hS8 hS9 v0 v1 c2 n0 hld0
          go_wp2_with fail
          first | go_end0 | (refine bodyPost_ret (results_none rfl _ _ _) rfl ?_)
          have a1 := SepW.dropB (pre := [_, _]) (l := [_]) HS9.out
          have a2 := SepW.dropB (pre := [_, _, _]) (l := [_]) a1
          have a3 := a2.pull 5 rfl
          have a4 := a3.pull 3 rfl
          have a5 := SepW.bodApp (l := l8.map fun p => (p.2, p.1.body)) (m := B) a4
          have a6 := SepW.mid (pre := [_, _, _, _]) a5
          have hll : (L.set jd (qd, f8, y)).length = L.length := List.length_set
          have hnv : nodeV (L.set jd (qd, f8, y)) = nodeV L := map_set_same (fun p : Nq => Value.pointer (some ⟨p.1.x, 0, none⟩)) HPd.out rfl
          have hdv : diskV (L.set jd (qd, f8, y)) = diskV L := map_set_same (fun p : Nq => Value.pointer (some ⟨p.1.b0, 0, none⟩)) HPd.out rfl
          refine ⟨rfl, mv9, L.set jd (qd, f8, y), sendM jd l8 M1, (l8.map fun p => (p.2, p.1.body)) ++ B, ?_, ?_, Or.inr ⟨(src, om), HAt.out, Or.inr ⟨jd, xd, y, ms, HJd.out, ?_, HHr.out, ?_, ?_⟩⟩, map_set_same Prod.fst HPd.out rfl⟩
          · unfold clOs
            rw [hll, hnv, hdv]
            exact a6
          · intro p hp
            rcases List.mem_append.1 hp with hp | hp
            · exact List.mem_append_right _ (HB.out p (HSub.out p hp))
            · obtain ⟨r, hr, rfl⟩ := List.mem_map.1 hp
              exact List.mem_append_left _ (List.mem_map.2 ⟨r, List.mem_of_mem_take hr, rfl⟩)
          · unfold xOf
            rw [List.getElem?_map, HPd.out]
            rfl
          · unfold xOf
            rw [List.map_set]
          · rw [mOf_send, HL8.out, HMo.out, ← HJd.out]
      · have HIn := Lib.hid hin
        by_cases h0 : 0 ≤ om.dst
        · have hd0 : decide (0 ≤ om.dst) = true := decide_eq_true h0
          have hdn : decide (om.dst < (L.length : Int)) = false := decide_eq_false (fun h => hin ⟨h0, h⟩)
          clear hin h0
          go_wp2_with fail
          go_quiet (fail)
          have HSd := Lib.hid (HS.out.drewN nq)
          generalize wc.drewN nq = wd at *
          clear HS v0 v1 c0 c2
          go_wp2_with fail
          first | go_end0 | (refine bodyPost_ret (results_none rfl _ _ _) rfl ?_)
          exact ⟨rfl, _, L, M1, B, HSd.out.tail, fun p hp => HB.out p (HSub.out p hp), Or.inr ⟨(src, om), HAt.out, Or.inl ⟨by unfold xOf; rw [List.length_map]; exact HIn.out, rfl, HMo.out⟩⟩, rfl⟩
        · have hd0 : decide (0 ≤ om.dst) = false := decide_eq_false h0
          clear hin h0
          go_wp2_with fail
          go_quiet (fail)
          have HSd := Lib.hid (HS.out.drewN nq)
          generalize wc.drewN nq = wd at *
          clear HS v0 v1 c0 c2
          go_wp2_with fail
          first | go_end0 | (refine bodyPost_ret (results_none rfl _ _ _) rfl ?_)
          exact ⟨rfl, _, L, M1, B, HSd.out.tail, fun p hp => HB.out p (HSub.out p hp), Or.inr ⟨(src, om), HAt.out, Or.inl ⟨by unfold xOf; rw [List.length_map]; exact HIn.out, rfl, HMo.out⟩⟩, rfl⟩
end
end Go.Proofs.YtgmdedkingampaaGreat
