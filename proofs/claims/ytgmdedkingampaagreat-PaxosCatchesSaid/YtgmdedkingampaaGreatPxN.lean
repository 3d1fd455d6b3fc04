/-
  Package paxos: Propose, Leads, Next, Value, Err.
-/
import Derived.Test.YtgmdedkingampaaGreatPxK
set_option linter.unusedVariables false
set_option linter.unusedSimpArgs false
namespace Go.Proofs.YtgmdedkingampaaGreat
open Go.ChangeShapes Go.WideShapes Go.ChangeAt Go.RowKit Go.Maps
set_option maxRecDepth 1000000
set_option linter.unusedVariables false
set_option linter.unusedSimpArgs false

theorem Tryz.bytesInfo : (Tryz.prog.info? 27).map (fun i => (i.zero, i.size, i.bytes)) = some (some (.slice none 0 0), 1, 24) := by kernel_rfl
/-- Known values on end. -/
def Run (m : Ln.Kn) (slot : Int) (L : List (List Int)) : Prop := ∀ (j : Nat) xs, L[j]? = some xs → m (slot + j) = some xs
theorem Run.nil (m : Ln.Kn) (slot : Int) : Run m slot [] := fun j xs h => by simp at h
theorem Run.snoc {m : Ln.Kn} {slot : Int} {L : List (List Int)} {xs : List Int} (h : Run m slot L) (hx : m (slot + L.length) = some xs) : Run m slot (L ++ [xs]) := by
  intro j ys hj
  rw [List.getElem?_append] at hj
  split at hj
  · exact h j ys hj
  · have : j - L.length = 0 := by have := (List.getElem?_eq_some_iff.1 hj).1; simp at this; omega
    rw [this] at hj
    simp at hj
    rw [show j = L.length by omega, hx, hj]
theorem Run.last {m : Ln.Kn} {slot top : Int} {L : List (List Int)} (h : Run m slot L) (ht : Ln.IsTop m top) : L.length = 0 ∨ slot + L.length ≤ top := by
  by_cases h0 : L.length = 0
  · exact Or.inl h0
  · right
    have := h (L.length - 1) _ (List.getElem?_eq_getElem (by omega))
    have := (ht.2.2.1 _ (by rw [this]; simp)).2
    omega
/-- Values on end, each a copy. -/
def RetFr (W : World) (os : List Ob) (m : Ln.Kn) (slot most : Int) (e : Ending) (w' : World) : Prop :=
  ∃ (v : Value) (l : List (Value × List Int)), e = .returned v ∧ Run m slot (l.map Prod.snd) ∧ ((l.length : Int) ≤ most ∨ l = []) ∧ (most ≤ l.length ∨ m (slot + l.length) = none) ∧
      (∀ p ∈ l, ∃ bo bc, p.1 = .slice bo p.2.length bc) ∧ SepW W w' (obRow v 27 1 l.length (l.map Prod.fst) :: obBod l :: os)
section
variable {W w w' : World} {os : List Ob}
theorem SepW.swap {a b : Ob} (h : SepW W w (a :: b :: os)) : SepW W w (b :: a :: os) := h.perm (List.Perm.swap ..)
/-- A row's bytes join slices that lie behind another thing. -/
theorem SepW.bodIn {v : Value} {e : TypeId} {n : Nat} {xs : List Int} {r : Ob} {l : List (Value × List Int)} (h : SepW W w (obRow v e 1 n (u8s xs) :: r :: obBod l :: os)) : SepW W w (r :: obBod (l ++ [(v, xs)]) :: os) := by
  have h1 := (SepW.mid (pre := [_, _]) h.rowBod.swap).bodApp
  exact (h1.bodSub (fun p hp => by simp only [List.mem_append, List.mem_cons, List.not_mem_nil, or_false] at hp ⊢; exact hp.symm)).swap
theorem SepW.rowSet (h : SepW W w os) (i : Nat) {v v' : Value} {e : TypeId} {z n n' : Nat} {xs ys : List Value} (hi : os[i]? = some (obRow v e z n xs)) (hg : w.grownBy w' v.ownBlock) (hor : ∀ g, v'.ownBlock = some g → v.ownBlock = some g ∨ w.heap.size ≤ g)
    (hown : w'.ownsRow 0 e z v' n' ys) : SepW W w' (os.set i (obRow v' e z n' ys)) :=
  h.set i hi (Keep.grown hg (fun k hk => hk)) (obRow_good ..) hown (fun k hk => hor k hk)
variable {b0 n : Nat} {D : Nat → Prop} {m : Ln.Kn} {next : Int}
set_option maxHeartbeats 2000000 in
theorem SepW.lnFrom (h : SepW W w os) (i : Nat) (hi : os[i]? = some (obLn b0 D n m next)) {slot most : Int} (us : U1 slot) (hm : most ≤ 1000) :
    Calls Tryz.prog 98 #[.pointer (some ⟨b0, 0, none⟩), .int .u64 slot, .int .i64 most] w (RetFr W os m slot most) := by
  have HI := Lib.hid hi
  have HUs := Lib.hid us
  obtain ⟨i0, hi0, hz0, hz1, hz2⟩ := info_parts Tryz.bytesInfo
  have HS0 := Lib.hid (h.nilBod.nilRow 27 1)
  clear h hi us
  go_enter Tryz.func98, Tryz.ntmps98
  go_wp2
  go_loopw [7, 8, 9] (fun o _ _ wr => ∃ (l : List (Value × List Int)) (ao : Option Addr) (c : Nat), o = .slice ao l.length c ∧ Hid (Run m slot (l.map Prod.snd)) ∧ Hid ((l.length : Int) ≤ most ∨ l = []) ∧ Hid (∀ p ∈ l, ∃ bo bc, p.1 = .slice bo p.2.length bc) ∧ Hid (SepW W wr (obRow (.slice ao l.length c) 27 1 l.length (l.map Prod.fst) :: obBod l :: os))) (fun o _ _ _ => most.toNat - lenOf o)
  case atStart => exact ⟨[], none, 0, rfl, Lib.hid (Run.nil _ _), Lib.hid (Or.inr rfl), Lib.hid (by intro p hp; cases hp), HS0⟩
  case round =>
    clear HS0
    obtain ⟨l, ao, c, rfl, hr, hl, hf, hs⟩ := hrel
    by_cases hlt : (l.length : Int) < most
    · obtain ⟨bm, top, hL⟩ : LnO b0 D n wr m next := hs.out.get (i + 2) (by simpa using HI.out)
      have hcell := hL.cells.cell0.1
      have hlast := hr.out.last hL.top
      rw [List.length_map] at hlast
      have htop := hL.top.2.1
      have hsl : 0 ≤ slot + l.length ∧ slot + l.length ≤ 18446744073709551615 := by have := HUs.out.1; have := HUs.out.2; omega
      obtain ⟨_, ⟨f, hfm, hvals⟩, hsm⟩ := hL.map
      have hlk := Ln.look_two hfm hsl.1 hsl.2
      have hval := hvals _ hsl.1 hsl.2
      cases hms : m (slot + l.length) with
      | none =>
        rw [hms] at hval
        simp only [Ln.LVal] at hval
        rw [hval] at hlk
        have HM := Lib.hid hms
        simp only [Ln.lookV, Option.getD_none, Option.isSome_none] at hlk
        clear hL hfm hvals hsm hval hlast hms
        go_wp2_with fail
        go_ret
        exact ⟨_, l, rfl, hr.out, hl.out, Or.inr HM.out, hf.out, hs.out⟩
      | some xs =>
        rw [hms] at hval
        obtain ⟨a, cd, e1, e2, _, _, _⟩ := hval
        rw [e1] at hlk
        have HM := Lib.hid hms
        have HCl := Lib.hid (cloneB_any e2 (by have := (hsm _ _ hms).2; omega))
        simp only [Ln.lookV, Option.getD_some, Option.isSome_some] at hlk
        clear hL hfm hvals hsm hlast hms e1 e2
        go_wp2_with fail
        refine HCl.out.mono ?_
        rintro e w1 ⟨cv, rfl, ho1, hb1⟩
        obtain ⟨co, cc, rfl, _, _⟩ := own_form ho1
        have HS1 := Lib.hid (hs.out.newRow ho1 hb1)
        clear ho1 hb1 HCl
        have hown1 : Hid (w1.ownsRow 0 27 1 (.slice ao l.length c) l.length (l.map Prod.fst)) := Lib.hid (HS1.out.get 1 rfl)
        have hl9 : l.length ≤ 1000000000 := by omega
        have hone : Hid (∀ u ∈ (#[Value.slice co xs.length cc]).toList, u.oneCell' = true) := Lib.hid (by intro u hu; simp at hu; subst hu; rfl)
        go_wp2_with (first
          | (at_builtin; (refine wpList_appL rfl (.tmp 31) (.tmp 34) 22 rfl 0 27 i0 _ 1 24 Tryz.underlying22 hi0 hz0 hz1 hz2 rfl (by decide) (by decide) rfl rfl (by simp) rfl hown1.out hone.out hl9 (Nat.zero_le _) ?_)
             intro g7 cap7 w7 hown7 hg7 hor7
             have HS7 := Lib.hid (HS1.out.rowApp 1 rfl hg7 hor7 hown7)
             clear hown7 hg7 hor7)
          | fail)
        have hs7 : SepW W w7 (obRow (.slice co xs.length cc) 5 1 xs.length (u8s xs) :: obRow (.slice (some ⟨g7, 0, none⟩) (l.length + 1) cap7) 27 1 (l.length + 1) (l.map Prod.fst ++ [.slice co xs.length cc]) :: obBod l :: os) := HS7.out
        have HS8 := Lib.hid hs7.bodIn
        clear hs7 HS7
        go_roundw
        case rel =>
          refine ⟨l ++ [(.slice co xs.length cc, xs)], some ⟨g7, 0, none⟩, cap7, by simp, Lib.hid (by rw [List.map_append]; exact hr.out.snoc (by rw [List.length_map]; exact HM.out)), Lib.hid (Or.inl (by simp; omega)), Lib.hid (fun p hp => ?_), Lib.hid (by simpa using HS8.out)⟩
          rcases List.mem_append.1 hp with hp | hp
          · exact hf.out p hp
          · obtain rfl : p = _ := by simpa using hp
            exact ⟨co, cc, rfl⟩
        case measure => simp [lenOf]; omega
    · go_wp2_with fail
      go_ret
      exact ⟨_, l, rfl, hr.out, hl.out, Or.inl (by omega), hf.out, hs.out⟩
/-- Values on end as messages. -/
def catP (t s : Int) : List (Value × List Int) → List (Om × Value)
  | [] => []
  | p :: r => (⟨t, 12, 0, s, p.2⟩, p.1) :: catP t (s + 1) r
def catO (t s : Int) : List (List Int) → List Om
  | [] => []
  | p :: r => ⟨t, 12, 0, s, p⟩ :: catO t (s + 1) r
theorem catP_fst (t : Int) : ∀ (l : List (Value × List Int)) (s : Int), (catP t s l).map Prod.fst = catO t s (l.map Prod.snd)
  | [], s => rfl
  | p :: r, s => by simp only [catP, catO, List.map_cons, catP_fst t r]
theorem catP_len (t : Int) : ∀ (l : List (Value × List Int)) (s : Int), (catP t s l).length = l.length
  | [], s => rfl
  | p :: r, s => by simp only [catP, List.length_cons, catP_len t r]
theorem catP_snoc (t : Int) (p : Value × List Int) : ∀ (l : List (Value × List Int)) (s : Int), catP t s (l ++ [p]) = catP t s l ++ [(⟨t, 12, 0, s + l.length, p.2⟩, p.1)]
  | [], s => by simp [catP]
  | x :: r, s => by
    simp only [List.cons_append, catP, catP_snoc t p r, List.length_cons]
    rw [show s + 1 + (r.length : Int) = s + ((r.length + 1 : Nat) : Int) by omega]
theorem catP_bod (t : Int) : ∀ (l : List (Value × List Int)) (s : Int) p, p ∈ (catP t s l).map (fun p => (p.2, p.1.body)) → p ∈ l
  | [], s, p, h => by cases h
  | x :: r, s, p, h => by
    rcases List.mem_cons.1 h with rfl | h
    · exact List.mem_cons_self ..
    · exact List.mem_cons_of_mem _ (catP_bod t r _ p h)
theorem catP_take {l : List (Value × List Int)} {k : Nat} {p : Value × List Int} (h : l[k]? = some p) (t s : Int) : catP t s (l.take (k + 1)) = catP t s (l.take k) ++ [(⟨t, 12, 0, s + k, p.2⟩, p.1)] := by
  obtain ⟨h1, h2⟩ := List.getElem?_eq_some_iff.1 h
  rw [List.take_succ_eq_append_getElem h1, h2, catP_snoc, List.length_take, Nat.min_eq_left (by omega)]
def CatchR (x : Nd) (t s : Int) (ms : List Om) : Prop := ∃ L, Run x.kn s L ∧ ((L.length : Int) ≤ 8 ∨ L = []) ∧ (8 ≤ (L.length : Int) ∨ x.kn (s + L.length) = none) ∧ ms = catO t s L
end
section
variable {W w w' : World} {os : List Ob} {q : NdA} {f : NdF} {x : Nd}
theorem SepW.runSmall (h : SepW W w (ndOs q f x os)) {s : Int} {L : List (List Int)} (hr : Run x.kn s L) {k : Nat} (hk : k < L.length) : 0 ≤ s + k ∧ s + k ≤ 18446744073709551615 := by
  obtain ⟨bm, top, hL⟩ : LnO q.l0 f.ln x.nl w x.kn x.next := h.get 4 rfl
  have h1 := hr k _ (List.getElem?_eq_getElem hk)
  have h2 := hL.top.2.2.1 (s + k) (by rw [h1]; simp)
  have h3 := hL.top.2.1
  omega
set_option maxHeartbeats 4000000 in
theorem nd_catch (h : SepW W w (ndOs q f x os)) {k0 b s : Int} (o : Mo) (bv : Value) (t : Int) (us : U1 s) :
    Calls Tryz.prog 54 #[.pointer (some ⟨q.x, 0, none⟩), .int .i64 t, .agg (msC k0 b s o bv)] w fun e w' => ∃ ms, CatchR x t s ms ∧ RetH W q os x ms e w' := by
  obtain ⟨W0, hW0⟩ : ∃ y, y = w.alloc (.cells (msC k0 b s o bv) 42) := ⟨_, rfl⟩
  have H := Lib.hid (h.boxed k0 b s o bv hW0)
  have HW := Lib.hid hW0
  have HUs := Lib.hid us
  obtain ⟨j0, hj, hy0, hy1, hy2⟩ := info_parts Tryz.outInfo
  clear h hW0 us
  go_enter Tryz.func54, Tryz.ntmps54
  go_upto_region 1 with fail
  rw [← HW.out]
  generalize w.heap.size = m at *
  clear HW
  obtain ⟨⟨-, -, -, -, c4, -, -, -⟩, -⟩ := H.out.ndCell 0 rfl
  obtain ⟨-, -, d2, -⟩ := H.out.msCell 8 rfl
  have HF := Lib.hid (H.out.drew.lnFrom 4 rfl HUs.out (most := 8) (by omega))
  go_wp2_with fail
  go_region_held3 (fun w' => w'.cell? ⟨q.x, 4, none⟩ = some (.pointer (some ⟨q.l0, 0, none⟩)) ∧ w'.cell? ⟨m, 2, none⟩ = some (.int .u64 s)) (first | with_reducible exact hS8 | go_keep)
    (first
      | (go_at_call 98; (with_reducible refine HF.out.mono ?_); rintro e w8 ⟨v8, l, rfl, hr, hl, hm8, hf, hs8⟩
         have hS8 : w8.cell? ⟨q.x, 4, none⟩ = some (.pointer (some ⟨q.l0, 0, none⟩)) ∧ w8.cell? ⟨m, 2, none⟩ = some (.int .u64 s) := ⟨(hs8.ndCell 2 rfl).1.2.2.2.2.1, (hs8.msCell 10 rfl).2.2.1⟩
         obtain ⟨ao8, c8, rfl, _, _⟩ := own_form (hs8.get 0 rfl : w8.ownsRow 0 27 1 v8 l.length (l.map Prod.fst))
         have HS8 := Lib.hid hs8
         have HR := Lib.hid hr
         have HL := Lib.hid hl
         have HM := Lib.hid hm8
         have HFo := Lib.hid hf
         clear hs8 hr hl hm8 hf))
  all_goals
    clear hS8 c4 d2 HF H
    have HS0 := Lib.hid (HS8.out.nilRow 85 12)
    have hl8 : l.length ≤ 8 := by rcases HL.out with h | h; omega; subst h; simp
    clear HS8
    go_wp2_with fail
    go_loopw [7, 8, 9, 18] (fun ov _ _ i wr => ∃ (k : Nat) (ao : Option Addr) (c : Nat), k ≤ l.length ∧ i = .int .i64 k ∧ ov = .slice ao k c ∧ Hid (SepW W wr (obRow (.slice ao k c) 85 12 k (outC (catP t s (l.take k))) :: obRow (.slice ao8 l.length c8) 27 1 l.length (l.map Prod.fst) :: obBod l :: ndOs q f x (obBlk m (.cells (msC k0 b s o bv) 42) :: os)))) (fun _ _ _ i _ => l.length - (intOf i).toNat)
    case atStart => exact ⟨0, none, 0, by omega, rfl, rfl, HS0⟩
    case round =>
      clear HS0
      obtain ⟨k, ao, c, hk, rfl, rfl, hs⟩ := hrel
      by_cases hlt : k < l.length
      · have hlt2 : (k : Int) < (l.length : Int) := by omega
        obtain ⟨p, hp⟩ : ∃ p, l[k]? = some p := ⟨_, List.getElem?_eq_getElem hlt⟩
        obtain ⟨bo, bc, hpe⟩ := HFo.out p (List.mem_of_getElem? hp)
        obtain ⟨pv, pb⟩ := p
        simp only at hpe
        subst hpe
        have hsl := hs.out.tail.tail.tail.runSmall HR.out (k := k) (by simpa using hlt)
        have hsrow := hs.out.row 1 rfl
        obtain ⟨a, hau, hcm⟩ := hsrow.at' (m := k) (u := .slice bo pb.length bc) (by rw [List.getElem?_map, hp]; rfl)
        subst hau
        have d2 := (hs.out.msCell 11 rfl).2.2.1
        have HT := Lib.hid (catP_take hp t s)
        have hlit := hs.out.litRow [.int .i64 t] 3 (by simp)
        have HLit := Lib.hid hlit
        have HA := Lib.hid (all_any (ts := [t]) (hlit.row 0 rfl) (by simp) 12 0 (s + k) bo pb.length bc)
        clear hlit hsrow hp hs
        go_wp2_with fail
        refine HA.out.mono ?_
        rintro e w7 ⟨ao7, c7, rfl, ho7, hb7⟩
        have HS7 := Lib.hid (HLit.out.step hb7)
        have HO7 := Lib.hid ho7
        clear HLit HA ho7 hb7
        go_wp2_with (first
          | (at_builtin; (refine wpList_appRow rfl (.tmp 23) (.tmp 33) 28 rfl 0 85 j0 _ 12 128 Tryz.underlying28 hj hy0 hy1 hy2 rfl (by decide) (by decide) rfl rfl (HS7.out.get 1 rfl : w7.ownsRow 0 85 12 (.slice ao k c) k (outC (catP t s (l.take k)))) HO7.out (allC_one _ _ _ _ _ _ _) (by simp; omega) (Nat.zero_le _) ?_)
             intro v9 w9 ho9 hg9 hl9
             have HS9 := Lib.hid (HS7.out.rowSet 1 rfl hg9 hl9 ho9)
             obtain ⟨ao9, c9, rfl, -, -⟩ := own_form ho9
             clear ho9 hg9 hl9)
          | fail)
        have hs9 : SepW W w9 (obRow (.slice ao9 (k + [t].length) c9) 85 12 (k + [t].length) (outC (catP t s (l.take k)) ++ allC [t] 12 0 (s + k) (.slice bo pb.length bc)) :: obRow (.slice (some a) l.length c8) 27 1 l.length (l.map Prod.fst) :: obBod l :: ndOs q f x (obBlk m (.cells (msC k0 b s o bv) 42) :: os)) := HS9.out.tail
        rw [allC_out _ _ _ _ pb, ← outC_app, show allP [t] 12 0 (s + k) pb (.slice bo pb.length bc) = [(⟨t, 12, 0, s + k, pb⟩, .slice bo pb.length bc)] from rfl, ← HT.out] at hs9
        have HS10 := Lib.hid hs9
        clear hs9 HS9 HS7
        go_roundw
        case rel => exact ⟨k + 1, ao9, c9, by omega, by go_num, rfl, HS10⟩
        case measure => simp [intOf]; omega
      · have : k = l.length := by omega
        subst this
        have hkd : decide ((l.length : Int) < (l.length : Int)) = false := decide_eq_false (by omega)
        rw [List.take_length] at hs
        clear hlt hk
        go_wp2_with fail
        go_ret
        refine ⟨catO t s (l.map Prod.snd), ⟨l.map Prod.snd, HR.out, ?_, ?_, rfl⟩, ?_⟩
        · rcases HL.out with h | h
          · exact Or.inl (by simpa using h)
          · exact Or.inr (by simp [h])
        · simpa using HM.out
        · have h1 := SepW.dropB (pre := [_]) (l := [_]) hs.out
          have h2 := SepW.dropB (pre := [_, _, _, _, _, _, _, _, _, _]) (l := [_]) h1
          have h3 : SepW W wr (obRow (.slice ao l.length c) 85 12 (catP t s l).length (outC (catP t s l)) :: obBod ((catP t s l).map fun p => (p.2, p.1.body)) :: ndOs q f x os) := by
            rw [catP_len]
            exact (h2.swap.bodSub (catP_bod t l s)).swap
          exact ⟨.slice ao l.length c, catP t s l, f, rfl, catP_fst .., h3⟩
end
end Go.Proofs.YtgmdedkingampaaGreat

namespace Go.Proofs.YtgmdedkingampaaGreat
open Go.ChangeShapes Go.WideShapes Go.ChangeAt Go.RowKit Go.Maps
set_option maxRecDepth 1000000
set_option linter.unusedVariables false
set_option linter.unusedSimpArgs false

theorem need_mono {m n : Nat} (h : m ≤ n) : need m ≤ need n := by unfold need; omega
theorem Room.mono {x : Nd} {m n : Nat} (h : Room x n) (hm : m ≤ n) : Room x m := ⟨Nat.le_trans (need_mono hm) h.free, h.fit, h.waits, h.few, h.e⟩
theorem noteB_len (kd : Int) (ns : List Int) (v : Option (List Int)) : (noteB kd ns v).length ≤ 1 + 9 * ns.length + 9 + (v.getD []).length := by
  have h0 := flat_len ns
  cases v with
  | none => simp only [noteB, List.length_cons, List.length_append, List.length_nil, Option.getD_none]; omega
  | some xs =>
    have h1 := putU_len xs.length
    have h2 := sz_le xs.length
    simp only [noteB, putB, List.length_cons, List.length_append, Option.getD_some]; omega
/-- A node that bears one call more, of values of so many bytes. -/
structure NdOk (x : Nd) (M : Nat) : Prop where
  ps : x.ps.length ≤ 7
  na : x.NA ≤ 900
  NL : x.NL ≤ 600000
  nl : x.nl < 1000000
  vl : ∀ a v, x.A.l a = some v → v.val.length ≤ 100000
  op : ∀ s v g, x.L.op s = some (v, g) → v.val.length ≤ M
  room : Room x (M + 28)
  M : M ≤ 3900
/-- What a handler makes of a message. -/
def HandR (x : Nd) (t k b s : Int) (xs : List Int) (y : Nd) (ms : List Om) : Prop :=
  (k = 7 ∧ ∃ ks, (x.A.promised ≤ b → IsKeys x.A.l ks) ∧ y = (prepF x ks t b s).1 ∧ ms = (prepF x ks t b s).2) ∨
  (k = 8 ∧ PromR x t b s xs y ms) ∨
  (k = 9 ∧ y = (acceptF x t b s xs).1 ∧ ms = (acceptF x t b s xs).2) ∨
  (k = 10 ∧ AcceptedR x t b s y ms) ∨
  (k = 11 ∧ y = refusedN x b ∧ ms = []) ∨
  (k = 12 ∧ (∃ nx, y = learnN x s xs nx) ∧ ms = []) ∨
  (k = 13 ∧ y = x ∧ CatchR x t s ms) ∨
  (k = 18 ∧ y = (beatF x t b s).1 ∧ ms = (beatF x t b s).2)
def own (k : Int) : Bool := (k == 7 || k == 8 || k == 9 || k == 10 || k == 11 || k == 12 || k == 13 || k == 18)
/-- What 'Handle' makes of a message. -/
def HandleR (x : Nd) (t k b s : Int) (xs : List Int) (y : Nd) (ms : List Om) : Prop :=
  ((x.e ≠ 0 ∨ t ∉ x.ps ∨ own k = false) ∧ y = x ∧ ms = []) ∨
  (x.e = 0 ∧ t ∈ x.ps ∧ own k = true ∧ ∃ ms', HandR x t k b s xs y ms' ∧ ms = if y.e = 0 then ms' else [])
theorem iKeyed : Keyed Tryz.prog 3 := int_keyed Tryz.underlying3
theorem i_key {a : Int} (h : -9223372036854775808 ≤ a ∧ a ≤ 9223372036854775807) : keyOf Tryz.prog 3 (.int .i64 a) = some (.int .i64 a) :=
  keyOf_int_mk Tryz.underlying3 (by obtain ⟨h1, h2⟩ := h; simp [Lit.wf, IntKind.min, IntKind.max, IntKind.signed, IntKind.bits]; omega)
theorem zeroHd (w : World) : (zeroValue 104).run Tryz.prog w = .ok .nilFunc w := by kernel_rfl
/-- A function as a value. -/
def fnV (g : Nat) : Value := .func (.func g) #[] #[]
/-- The handler of a kind. -/
def hNum (k : Int) : Option Nat := if k = 18 then some 55 else if k = 13 then some 54 else if k = 12 then some 53 else if k = 11 then some 52 else if k = 10 then some 51 else if k = 9 then some 50 else if k = 8 then some 49 else if k = 7 then some 48 else none
theorem hd_map {w : World} {bm : Nat} (h : MapR w Tryz.prog 3 bm 0 (fun _ => none)) :
    ∃ w1 w2 w3 w4 w5 w6 w7 w8, (Instr.mapUpdate 106 (.map (some bm)) (.int .i64 7) (.func (.func 48) #[] #[])).run Tryz.prog w = .ok () w1 ∧ (Instr.mapUpdate 106 (.map (some bm)) (.int .i64 8) (.func (.func 49) #[] #[])).run Tryz.prog w1 = .ok () w2 ∧ (Instr.mapUpdate 106 (.map (some bm)) (.int .i64 9) (.func (.func 50) #[] #[])).run Tryz.prog w2 = .ok () w3 ∧ (Instr.mapUpdate 106 (.map (some bm)) (.int .i64 10) (.func (.func 51) #[] #[])).run Tryz.prog w3 = .ok () w4 ∧ (Instr.mapUpdate 106 (.map (some bm)) (.int .i64 11) (.func (.func 52) #[] #[])).run Tryz.prog w4 = .ok () w5 ∧ (Instr.mapUpdate 106 (.map (some bm)) (.int .i64 12) (.func (.func 53) #[] #[])).run Tryz.prog w5 = .ok () w6 ∧ (Instr.mapUpdate 106 (.map (some bm)) (.int .i64 13) (.func (.func 54) #[] #[])).run Tryz.prog w6 = .ok () w7 ∧ (Instr.mapUpdate 106 (.map (some bm)) (.int .i64 18) (.func (.func 55) #[] #[])).run Tryz.prog w7 = .ok () w8 ∧
      (∀ k : Int, -9223372036854775808 ≤ k ∧ k ≤ 9223372036854775807 → (Instr.lookup 106 (.map (some bm)) (.int .i64 k) true).run Tryz.prog w8 = .ok (.tuple #[((hNum k).map fnV).getD .nilFunc, .bool (hNum k).isSome]) w8) ∧ w.grownBy w8 (some bm) := by
  obtain ⟨w1, r1, m1, g1⟩ := h.store iKeyed Tryz.underlying106 (by decide) (val := fnV 48) (i_key (a := 7) (by decide)) (by trivial)
  obtain ⟨w2, r2, m2, g2⟩ := m1.store iKeyed Tryz.underlying106 (by decide) (val := fnV 49) (i_key (a := 8) (by decide)) (by trivial)
  obtain ⟨w3, r3, m3, g3⟩ := m2.store iKeyed Tryz.underlying106 (by decide) (val := fnV 50) (i_key (a := 9) (by decide)) (by trivial)
  obtain ⟨w4, r4, m4, g4⟩ := m3.store iKeyed Tryz.underlying106 (by decide) (val := fnV 51) (i_key (a := 10) (by decide)) (by trivial)
  obtain ⟨w5, r5, m5, g5⟩ := m4.store iKeyed Tryz.underlying106 (by decide) (val := fnV 52) (i_key (a := 11) (by decide)) (by trivial)
  obtain ⟨w6, r6, m6, g6⟩ := m5.store iKeyed Tryz.underlying106 (by decide) (val := fnV 53) (i_key (a := 12) (by decide)) (by trivial)
  obtain ⟨w7, r7, m7, g7⟩ := m6.store iKeyed Tryz.underlying106 (by decide) (val := fnV 54) (i_key (a := 13) (by decide)) (by trivial)
  obtain ⟨w8, r8, m8, g8⟩ := m7.store iKeyed Tryz.underlying106 (by decide) (val := fnV 55) (i_key (a := 18) (by decide)) (by trivial)
  refine ⟨w1, w2, w3, w4, w5, w6, w7, w8, r1, r2, r3, r4, r5, r6, r7, r8, fun k hk => ?_, (((((((g1).trans g2).trans g3).trans g4).trans g5).trans g6).trans g7).trans g8⟩
  have hl := m8.look_ok iKeyed Tryz.underlying106 (zeroHd w8) (i_key hk)
  have e : (putF (putF (putF (putF (putF (putF (putF (putF (fun _ => none) (.int .i64 7) (fnV 48)) (.int .i64 8) (fnV 49)) (.int .i64 9) (fnV 50)) (.int .i64 10) (fnV 51)) (.int .i64 11) (fnV 52)) (.int .i64 12) (fnV 53)) (.int .i64 13) (fnV 54)) (.int .i64 18) (fnV 55)) (.int .i64 k) = (hNum k).map fnV := by
    unfold hNum
    rw [putF_int, putF_int, putF_int, putF_int, putF_int, putF_int, putF_int, putF_int]
    repeat' split
    all_goals rfl
  rw [e] at hl
  simpa using hl
section
variable {W w w' : World} {os : List Ob} {q : NdA} {f : NdF} {x : Nd}
/-- What the handler of a kind comes to. -/
theorem nd_hand {M : Nat} (h : SepW W w (ndOs q f x os)) (hN : NdOk x M) (he : x.e = 0) {k b s : Int} (o : Mo) {bv : Value} {xs : List Int} (t : Int) (ub : U1 b) (us : U1 s) (hb : Held W os bv (u8s xs)) (ux : U8 xs) (lx : xs.length ≤ M) {g : Nat} (hg : hNum k = some g) :
    Calls Tryz.prog g #[.pointer (some ⟨q.x, 0, none⟩), .int .i64 t, .agg (msC k b s o bv)] w fun e w' => ∃ y ms, HandR x t k b s xs y ms ∧ RetH W q os y ms e w' := by
  have hM := hN.M
  have hroom : ∀ (kd : Int) (ns : List Int) (v : Option (List Int)), ns.length ≤ 2 → (v.getD []).length ≤ M → Room x (noteB kd ns v).length := fun kd ns v h1 h2 => hN.room.mono (by have := noteB_len kd ns v; omega)
  unfold hNum at hg
  by_cases k18 : k = 18
  · subst k18
    obtain rfl : 55 = g := by simpa using hg
    exact (nd_beat h o bv t).mono fun e w' hr => ⟨_, _, Or.inr (Or.inr (Or.inr (Or.inr (Or.inr (Or.inr (Or.inr ⟨rfl, rfl, rfl⟩)))))), hr⟩
  rw [if_neg k18] at hg
  by_cases k13 : k = 13
  · subst k13
    obtain rfl : 54 = g := by simpa using hg
    exact (nd_catch h o bv t us).mono fun e w' ⟨ms, h1, hr⟩ => ⟨_, ms, Or.inr (Or.inr (Or.inr (Or.inr (Or.inr (Or.inr (Or.inl ⟨rfl, rfl, h1⟩)))))), hr⟩
  rw [if_neg k13] at hg
  by_cases k12 : k = 12
  · subst k12
    obtain rfl : 53 = g := by simpa using hg
    exact (nd_learned h o t us hb ux (by omega) (hroom _ _ _ (by simp) (by simpa using lx)) he hN.nl).mono fun e w' ⟨nx, hr⟩ => ⟨_, _, Or.inr (Or.inr (Or.inr (Or.inr (Or.inr (Or.inl ⟨rfl, ⟨nx, rfl⟩, rfl⟩))))), hr⟩
  rw [if_neg k12] at hg
  by_cases k11 : k = 11
  · subst k11
    obtain rfl : 52 = g := by simpa using hg
    exact (nd_refused h o bv t).mono fun e w' hr => ⟨_, _, Or.inr (Or.inr (Or.inr (Or.inr (Or.inl ⟨rfl, rfl, rfl⟩)))), hr⟩
  rw [if_neg k11] at hg
  by_cases k10 : k = 10
  · subst k10
    obtain rfl : 51 = g := by simpa using hg
    exact (nd_accepted h o bv t us (by have := hN.NL; omega) hN.ps (fun v g ho => ⟨by have := hN.op s v g ho; omega, hroom _ _ _ (by simp) (by simpa using hN.op s v g ho)⟩) he hN.nl).mono fun e w' ⟨y, ms, h1, hr⟩ => ⟨y, ms, Or.inr (Or.inr (Or.inr (Or.inl ⟨rfl, h1⟩))), hr⟩
  rw [if_neg k10] at hg
  by_cases k9 : k = 9
  · subst k9
    obtain rfl : 50 = g := by simpa using hg
    exact (nd_accept h o t ub us hb ux (by omega) hN.na (hroom _ _ _ (by simp) (by simpa using lx)) he).mono fun e w' hr => ⟨_, _, Or.inr (Or.inr (Or.inl ⟨rfl, rfl, rfl⟩)), hr⟩
  rw [if_neg k9] at hg
  by_cases k8 : k = 8
  · subst k8
    obtain rfl : 49 = g := by simpa using hg
    exact (nd_promise h o t us hb ux (by omega) hN.NL hN.ps).mono fun e w' ⟨y, ms, h1, hr⟩ => ⟨y, ms, Or.inr (Or.inl ⟨rfl, h1⟩), hr⟩
  rw [if_neg k8] at hg
  by_cases k7 : k = 7
  · subst k7
    obtain rfl : 48 = g := by simpa using hg
    exact (nd_prepare h o bv t ub us hN.na hN.vl (hroom _ _ _ (by simp) (by simp)) he).mono fun e w' ⟨ks, h1, hr⟩ => ⟨_, _, Or.inl ⟨rfl, ks, h1, rfl, rfl⟩, hr⟩
  rw [if_neg k7] at hg
  cases hg
theorem hNum_some {k : Int} {g : Nat} (h : hNum k = some g) : g = 48 ∨ g = 49 ∨ g = 50 ∨ g = 51 ∨ g = 52 ∨ g = 53 ∨ g = 54 ∨ g = 55 := by
  unfold hNum at h
  repeat' split at h
  all_goals (first | (cases h; done) | (cases h; simp))
theorem hNum_own (k : Int) : (hNum k).isSome = own k := by
  unfold hNum own
  by_cases h1 : k = 18
  · subst h1; rfl
  by_cases h2 : k = 13
  · subst h2; rfl
  by_cases h3 : k = 12
  · subst h3; rfl
  by_cases h4 : k = 11
  · subst h4; rfl
  by_cases h5 : k = 10
  · subst h5; rfl
  by_cases h6 : k = 9
  · subst h6; rfl
  by_cases h7 : k = 8
  · subst h7; rfl
  by_cases h8 : k = 7
  · subst h8; rfl
  simp [h1, h2, h3, h4, h5, h6, h7, h8]
set_option maxHeartbeats 4000000 in
theorem nd_handle {M : Nat} (h : SepW W w (ndOs q f x os)) (hN : x.e = 0 → NdOk x M) {k b s : Int} (o : Mo) {bv : Value} {xs : List Int} (t : Int) (ub : U1 b) (us : U1 s) (hb : Held W os bv (u8s xs)) (ux : U8 xs) (lx : xs.length ≤ M) (hk : -9223372036854775808 ≤ k ∧ k ≤ 9223372036854775807) :
    Calls Tryz.prog 19 #[.pointer (some ⟨q.x, 0, none⟩), .int .i64 t, .agg (msC k b s o bv)] w fun e w' => ∃ y ms, HandleR x t k b s xs y ms ∧ RetH W q os y ms e w' := by
  obtain ⟨bo, bc, rfl, hbc, hbc2⟩ := (hb.at0 h.ndRest).form
  simp only [List.length_map] at hb hbc hbc2 ⊢
  obtain ⟨W0, hW0⟩ : ∃ y, y = w.alloc (.cells (msC k b s o (.slice bo xs.length bc)) 42) := ⟨_, rfl⟩
  have H := Lib.hid (h.boxed k b s o (.slice bo xs.length bc) hW0)
  have HW := Lib.hid hW0
  have HN := Lib.hid hN
  have HUb := Lib.hid ub
  have HUs := Lib.hid us
  have HB := Lib.hid hb
  have HX := Lib.hid ux
  have HU := Lib.hid (nd_up H.out)
  have HK := Lib.hid hk
  clear h hW0 ub us hb ux hN hk
  go_enter Tryz.func19, Tryz.ntmps19
  go_upto_region 1 with fail
  rw [← HW.out]
  generalize w.heap.size = m at *
  clear HW
  by_cases he : x.e = 0
  · obtain ⟨⟨-, c1, -, -, -, -, -, -⟩, -⟩ := H.out.ndCell 0 rfl
    rw [decide_eq_true he] at HU
    have HE := Lib.hid he
    have HI := Lib.hid (contains_any (H.out.row 7 rfl) t)
    clear he
    go_wp2_with fail
    refine HU.out.mono ?_
    rintro e w1 ⟨rfl, rfl⟩
    clear HU
    go_wp2_with fail
    refine HI.out.mono ?_
    rintro e w1 ⟨rfl, rfl⟩
    clear HI
    by_cases ht : t ∈ x.ps
    · rw [decide_eq_true ht]
      have HT := Lib.hid ht
      have hmm := @run_makeMap Tryz.prog
      obtain ⟨w1, w2, w3, w4, w5, w6, w7, w8, r1, r2, r3, r4, r5, r6, r7, r8, hlk, hg8⟩ := hd_map (MapR.made W0 Tryz.prog 3)
      have hb8 : Below W0.heap.size W0 w8 := ((Below.refl _ _).alloc (Nat.le_refl _) _).grown hg8 (by simp) (fun k hk => by cases hk; exact Nat.le_refl _)
      have HS8 := Lib.hid (H.out.step hb8)
      have hl := hlk k HK.out
      have d0 := (HS8.out.msCell 8 rfl).1
      have HMb : Hid (w8.heap[m]? = some (.cells (msC k b s o (.slice bo xs.length bc)) 42 (0, 0))) := Lib.hid (HS8.out.get 8 rfl)
      have how := hNum_own k
      clear hlk hg8 hb8 ht c1
      cases hh : hNum k with
      | none =>
        rw [hh] at hl how
        have HOw := Lib.hid how
        have hl2 : (Instr.lookup 106 (.map (some W0.heap.size)) (.int .i64 k) true).run Tryz.prog w8 = .ok (.tuple #[.nilFunc, .bool false]) w8 := hl
        clear hl hh how
        go_wp2_with fail
        go_ret
        exact ⟨x, [], Or.inl ⟨Or.inr (Or.inr HOw.out.symm), rfl, rfl⟩, RetH.nothing HS8.out.ahead.tail⟩
      | some g =>
        rw [hh] at hl how
        have HOw := Lib.hid how
        have hl2 : (Instr.lookup 106 (.map (some W0.heap.size)) (.int .i64 k) true).run Tryz.prog w8 = .ok (.tuple #[.func (.func g) #[] #[], .bool true]) w8 := hl
        have HHd := Lib.hid (nd_hand HS8.out (HN.out HE.out) HE.out o t HUb.out HUs.out (HB.out.more [_]) HX.out lx hh)
        have hcs := hNum_some hh
        clear hl hh how
        rcases hcs with rfl | rfl | rfl | rfl | rfl | rfl | rfl | rfl
        all_goals
          go_wp2_with (first
            | (refine wpList_loadRow rfl 42 (.tmp 5) rfl m _ 42 HMb.out rfl _ Tryz.underlying42 rfl (by kernel_rfl) ?_)
            | fail)
          refine HHd.out.mono ?_
          rintro e w9 ⟨y, ms, hhd, v9, l9, f9, rfl, hl9, hs9⟩
          have HT2 := Lib.hid (nd_told hs9.tail.tail v9)
          have HS9 := Lib.hid hs9
          have HL9 := Lib.hid hl9
          have HH9 := Lib.hid hhd
          clear hs9 hl9 hhd HHd HS8 H d0 hl2 r1 r2 r3 r4 r5 r6 r7 r8
          by_cases h0 : y.e = 0
          · rw [if_pos h0] at HT2
            have H0 := Lib.hid h0
            clear h0
            go_wp2_with fail
            refine HT2.out.mono ?_
            rintro e w10 ⟨rfl, rfl⟩
            clear HT2
            go_wp2_with fail
            go_ret
            refine ⟨y, ms, Or.inr ⟨HE.out, HT.out, HOw.out.symm, ms, HH9.out, by rw [if_pos H0.out]⟩, ?_⟩
            exact ⟨v9, l9, f9, rfl, HL9.out, SepW.dropB (pre := [_, _, _, _, _, _, _, _, _, _]) (l := [_]) HS9.out⟩
          · rw [if_neg h0] at HT2
            have H0 := Lib.hid h0
            clear h0
            go_wp2_with fail
            refine HT2.out.mono ?_
            rintro e w10 ⟨rfl, rfl⟩
            clear HT2
            go_wp2_with fail
            go_ret
            exact ⟨y, [], Or.inr ⟨HE.out, HT.out, HOw.out.symm, ms, HH9.out, by rw [if_neg H0.out]⟩, RetH.nothing HS9.out.tail.tail.ahead.tail⟩
    · rw [decide_eq_false ht]
      have HT := Lib.hid ht
      clear ht
      go_wp2_with fail
      go_ret
      exact ⟨x, [], Or.inl ⟨Or.inr (Or.inl HT.out), rfl, rfl⟩, RetH.nothing H.out.ahead.tail⟩
  · rw [decide_eq_false he] at HU
    have HE := Lib.hid he
    clear he
    go_wp2_with fail
    refine HU.out.mono ?_
    rintro e w1 ⟨rfl, rfl⟩
    clear HU
    go_wp2_with fail
    go_ret
    exact ⟨x, [], Or.inl ⟨Or.inl HE.out, rfl, rfl⟩, RetH.nothing H.out.ahead.tail⟩
end
end Go.Proofs.YtgmdedkingampaaGreat

namespace Go.Proofs.YtgmdedkingampaaGreat
open Go.ChangeShapes Go.WideShapes Go.ChangeAt Go.RowKit Go.Maps
set_option maxRecDepth 1000000
set_option linter.unusedVariables false
set_option linter.unusedSimpArgs false

/-- What the leader makes of a proposal. -/
def LprR (x : Nd) (xs : List Int) (y : Nd) (v : Vt) (er : Int) : Prop :=
  (x.L.stage ≠ 2 ∧ y = x ∧ v = ⟨0, 0, []⟩ ∧ er = 33) ∨
  (x.L.stage = 2 ∧ x.L.next = 18446744073709551615 ∧ y = x ∧ v = ⟨0, 0, []⟩ ∧ er = 37) ∨
  (x.L.stage = 2 ∧ x.L.next ≠ 18446744073709551615 ∧ y = { x with L := nextL (opP x.L ⟨x.L.next, x.L.ballot, xs⟩ (fun _ => false)), NL := x.NL + 1 } ∧ v = ⟨x.L.next, x.L.ballot, xs⟩ ∧ er = 0)
theorem LprR.same {x y : Nd} {xs : List Int} {v : Vt} {er : Int} (h : LprR x xs y v er) : y.ps = x.ps := by
  rcases h with ⟨_, rfl, _⟩ | ⟨_, _, rfl, _⟩ | ⟨_, _, rfl, _⟩ <;> rfl
/-- What a proposal comes to. -/
def PropR (x : Nd) (xs : List Int) (y : Nd) (ms : List Om) (er : Int) : Prop :=
  (x.e ≠ 0 ∧ y = x ∧ ms = [] ∧ er = x.e) ∨ (x.e = 0 ∧ ∃ v, LprR x xs y v er ∧ ms = if er = 0 then accO [v] x.ps else [])
def RetP (W : World) (q : NdA) (os : List Ob) (y : Nd) (ms : List Om) (er : Int) (e : Ending) (w' : World) : Prop :=
  ∃ v l f, e = .returned (.tuple #[v, .int .i64 er]) ∧ l.map Prod.fst = ms ∧ SepW W w' (outOs v l (ndOs q f y os))
section
variable {W w w' : World} {os : List Ob} {q : NdA} {f : NdF} {x : Nd}
theorem RetH.toP {W : World} {q : NdA} {os : List Ob} {y : Nd} {ms : List Om} {v : Value} {w' : World} (h : RetH W q os y ms (.returned v) w') (er : Int) : RetP W q os y ms er (.returned (.tuple #[v, .int .i64 er])) w' := by
  obtain ⟨v', l, f, h1, h2, h3⟩ := h
  cases h1
  exact ⟨v, l, f, rfl, h2, h3⟩
theorem nd_leaProp (h : SepW W w (ndOs q f x os)) {bv : Value} {xs : List Int} (hb : SlR w bv (u8s xs)) (ux : U8 xs) (lx : xs.length ≤ 3900) (hN : x.NL < 900000) :
    Calls Tryz.prog 27 #[.pointer q.lp, bv] w fun e w' => ∃ (y : Nd) (f2 : NdF) (v : Vt) (er : Int) (ao : Option Addr) (c : Nat), e = .returned (.tuple #[.agg #[.int .u64 v.slot, .int .u64 v.ballot, .slice ao v.val.length c], .int .i64 er]) ∧
      SepW W w' (obRow (.slice ao v.val.length c) 5 1 v.val.length (u8s v.val) :: ndOs q f2 y os) ∧ LprR x xs y v er := by
  by_cases hs : x.L.stage = 2
  · by_cases hw : x.L.next = 18446744073709551615
    · refine (h.leaProposeWorn 5 rfl hs hw).mono ?_
      rintro e w1 ⟨rfl, h1⟩
      exact ⟨x, f, ⟨0, 0, []⟩, 37, none, 0, rfl, h1.nilRow _ _, Or.inr (Or.inl ⟨hs, hw, rfl, rfl, rfl⟩)⟩
    · refine (h.leaPropose 5 rfl hb ux (by omega) hs hw hN).mono ?_
      rintro e w1 ⟨ao, c, D', rfl, h1⟩
      have h1' : SepW W w1 (obRow (.slice ao xs.length c) 5 1 xs.length (u8s xs) :: ndOs q { f with le := D' } { x with L := nextL (opP x.L ⟨x.L.next, x.L.ballot, xs⟩ (fun _ => false)), NL := x.NL + 1 } os) := h1
      exact ⟨_, _, ⟨x.L.next, x.L.ballot, xs⟩, 0, ao, c, rfl, h1', Or.inr (Or.inr ⟨hs, hw, rfl, rfl, rfl⟩)⟩
  · refine (h.leaProposeState 5 rfl hs).mono ?_
    rintro e w1 ⟨rfl, h1⟩
    exact ⟨x, f, ⟨0, 0, []⟩, 33, none, 0, rfl, h1.nilRow _ _, Or.inl ⟨hs, rfl, rfl, rfl⟩⟩
/-- One vote, laid out as a row of its own. -/
theorem SepW.oneVt {o : Ob} (v : Vt) (ao : Option Addr) (c : Nat) (w : World) : VtS (w.alloc (.cells #[.int .u64 v.slot, .int .u64 v.ballot, .slice ao v.val.length c] 80)) (.slice (some ⟨w.heap.size, 0, none⟩) 1 1) [(v, .slice ao v.val.length c)] := by
  refine ⟨some ⟨w.heap.size, 0, none⟩, 1, rfl, Nat.le_refl _, by omega, fun i p hp => ?_⟩
  have hi : i = 0 := by have := (List.getElem?_eq_some_iff.1 hp).1; simp at this; omega
  subst hi
  obtain rfl : (v, Value.slice ao v.val.length c) = p := by simpa using hp
  refine ⟨_, ao, c, rfl, rfl, ?_, ?_, ?_⟩
  · exact World.news_of_block (heap_alloc_new w _) 0 _ rfl
  · exact World.news_of_block (heap_alloc_new w _) 1 _ rfl
  · exact World.news_of_block (heap_alloc_new w _) 2 _ rfl
set_option maxHeartbeats 2000000 in
theorem nd_propose (h : SepW W w (ndOs q f x os)) {bv : Value} {xs : List Int} (hb : Held W os bv (u8s xs)) (ux : U8 xs) (lx : xs.length ≤ 3900) (hN : x.NL < 900000) (hps : x.ps.length ≤ 7) :
    Calls Tryz.prog 11 #[.pointer (some ⟨q.x, 0, none⟩), bv] w fun e w' => ∃ y ms er, PropR x xs y ms er ∧ RetP W q os y ms er e w' := by
  obtain ⟨bo, bc, rfl, hbc, hbc2⟩ := (hb.at0 h.ndRest).form
  simp only [List.length_map] at hb hbc hbc2 ⊢
  have hgt : decide ((4000 : Int) < (xs.length : Int)) = false := decide_eq_false (by omega)
  have H := Lib.hid h
  obtain ⟨⟨-, -, -, -, -, c5, -, c7⟩, -⟩ := h.ndCell 0 rfl
  have HL := Lib.hid (nd_leaProp h (hb.at0 h.ndRest) ux lx hN)
  clear h hb ux
  by_cases he : x.e = 0
  · rw [he] at c7
    have HE := Lib.hid he
    clear he
    go_enter Tryz.func11, Tryz.ntmps11
    go_wp2_with fail
    refine HL.out.mono ?_
    rintro e w1 ⟨y, f2, v, er, ao, c, rfl, hs1, hlp⟩
    have HS1 := Lib.hid hs1
    have HLp := Lib.hid hlp
    clear hs1 hlp HL H c5 c7
    by_cases her : er = 0
    · subst her
      have hb2 : Below w1.heap.size w1 ((w1.alloc (.cells #[.int .u64 v.slot, .int .u64 v.ballot, .slice ao v.val.length c] 80)).alloc (.cells #[.int .u64 v.slot, .int .u64 v.ballot, .slice ao v.val.length c] 80)) := ((Below.refl _ _).alloc (Nat.le_refl _) _).alloc (by simp) _
      have HS2 := Lib.hid (HS1.out.step hb2)
      have hc1 := (HS2.out.ndCell 1 rfl).1.2.1
      have hsl := HS2.out.row 8 rfl
      have hv1 := SepW.oneVt (o := obBod []) v ao c (w1.alloc (.cells #[.int .u64 v.slot, .int .u64 v.ballot, .slice ao v.val.length c] 80))
      have hz : (w1.alloc (.cells #[.int .u64 v.slot, .int .u64 v.ballot, .slice ao v.val.length c] 80)).heap.size = w1.heap.size + 1 := by simp
      rw [hz] at hv1
      have HA := Lib.hid (nd_accepts (xa := q.x) (pv := .slice q.po y.ps.length q.pc) hc1 hsl (by rw [HLp.out.same]; exact hps) hv1 (by simp))
      clear hb2 hc1 hsl hv1 hz
      go_wp2_with fail
      refine HA.out.mono ?_
      rintro e w9 ⟨ao9, c9, rfl, ho9, hb9⟩
      have HO := Lib.hid ho9
      have HB9 := Lib.hid hb9
      clear ho9 hb9 HA
      go_wp2_with fail
      go_returns
      refine ⟨y, _, 0, Or.inr ⟨HE.out, v, HLp.out, rfl⟩, ?_⟩
      rw [if_pos rfl, ← HLp.out.same]
      have hr := (RetH.acc (l := [(v, .slice ao v.val.length c)]) HS2.out.rowBod HO.out HB9.out).toP 0
      simp only [List.length_cons, List.length_nil, Nat.zero_add, Nat.one_mul, List.map_cons, List.map_nil] at hr
      exact hr
    · have hne : (er == 0) = false := beq_eq_false_iff_ne.2 her
      have HEr := Lib.hid her
      have HS2 := Lib.hid (HS1.out.step (below_lit w1 (.cells #[.int .u64 v.slot, .int .u64 v.ballot, .slice ao v.val.length c] 80)))
      clear her
      go_wp2_with fail
      go_returns
      refine ⟨y, [], er, Or.inr ⟨HE.out, v, HLp.out, by rw [if_neg HEr.out]⟩, (RetH.nothing HS2.out.tail).toP er⟩
  · have hne : (x.e == 0) = false := beq_eq_false_iff_ne.2 he
    have HE := Lib.hid he
    have hd := (H.out.drew.ndCell 0 rfl).1.2.2.2.2.2.2.2
    clear he HL
    go_enter Tryz.func11, Tryz.ntmps11
    go_wp2_with fail
    go_quiet (fail)
    have HD := Lib.hid (H.out.drewN nq)
    generalize w.drewN nq = w1 at *
    clear H hd c5 c7
    go_wp2_with fail
    go_returns
    exact ⟨x, [], x.e, Or.inl ⟨HE.out, rfl, rfl, rfl⟩, (RetH.nothing HD.out).toP x.e⟩
theorem nd_leads (h : SepW W w (ndOs q f x os)) : Calls Tryz.prog 17 #[.pointer (some ⟨q.x, 0, none⟩)] w fun e w' => e = .returned (.bool (x.L.stage == 2)) ∧ w = w' := by
  obtain ⟨⟨-, -, -, -, -, c5, -, -⟩, -⟩ := h.ndCell 0 rfl
  have HL := Lib.hid (h.leaLeads 5 rfl)
  clear h
  go_enter Tryz.func17, Tryz.ntmps17
  go_wp2_with fail
  refine HL.out.mono ?_
  rintro e w1 ⟨rfl, rfl⟩
  go_wp2_with fail
  go_ret
  exact ⟨rfl, rfl⟩
theorem nd_next (h : SepW W w (ndOs q f x os)) : Calls Tryz.prog 14 #[.pointer (some ⟨q.x, 0, none⟩)] w fun e w' => e = .returned (.int .u64 x.next) ∧ w = w' := by
  obtain ⟨⟨-, -, -, -, c4, -, -, -⟩, -⟩ := h.ndCell 0 rfl
  have HL := Lib.hid (h.lnNext 4 rfl)
  clear h
  go_enter Tryz.func14, Tryz.ntmps14
  go_wp2_with fail
  refine HL.out.mono ?_
  rintro e w1 ⟨rfl, rfl⟩
  go_wp2_with fail
  go_ret
  exact ⟨rfl, rfl⟩
theorem nd_value (h : SepW W w (ndOs q f x os)) {s : Int} (us : U1 s) : Calls Tryz.prog 15 #[.pointer (some ⟨q.x, 0, none⟩), .int .u64 s] w fun e w' =>
    ∃ v, e = .returned (.tuple #[v, .bool (x.kn s).isSome]) ∧ SepW W w' (obRow v 5 1 ((x.kn s).getD []).length (u8s ((x.kn s).getD [])) :: ndOs q f x os) ∧ Below w.heap.size w w' := by
  obtain ⟨⟨-, -, -, -, c4, -, -, -⟩, -⟩ := h.ndCell 0 rfl
  have HL := Lib.hid (h.lnGet 4 rfl us)
  clear h
  go_enter Tryz.func15, Tryz.ntmps15
  go_wp2_with fail
  refine HL.out.mono ?_
  rintro e w1 ⟨v, rfl, h1, h2⟩
  have H1 := Lib.hid h1
  have H2 := Lib.hid h2
  clear h1 h2 HL
  go_wp2_with fail
  go_returns
  exact ⟨v, rfl, H1.out, H2.out⟩
theorem nd_err (h : SepW W w (ndOs q f x os)) : Calls Tryz.prog 23 #[.pointer (some ⟨q.x, 0, none⟩)] w fun e w' => e = .returned (.int .i64 x.e) ∧ w = w' := by
  obtain ⟨⟨-, -, -, -, -, -, -, c7⟩, -⟩ := h.ndCell 0 rfl
  clear h
  go_enter Tryz.func23, Tryz.ntmps23
  go_wp2_with fail
  go_ret
  exact ⟨rfl, rfl⟩
end
end Go.Proofs.YtgmdedkingampaaGreat
