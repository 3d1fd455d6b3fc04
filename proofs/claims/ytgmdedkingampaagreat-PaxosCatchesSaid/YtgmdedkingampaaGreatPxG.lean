/-
  Package paxos: refused, learned, beat.
-/
import Derived.Test.YtgmdedkingampaaGreatPxD
set_option linter.unusedVariables false
set_option linter.unusedSimpArgs false
namespace Go.Proofs.YtgmdedkingampaaGreat
open Go.ChangeShapes Go.WideShapes Go.ChangeAt Go.RowKit Go.Maps
set_option maxRecDepth 1000000

/-- A message that goes out. -/
structure Om where
  dst : Int
  kind : Int
  ballot : Int
  slot : Int
  body : List Int
def outC (l : List (Om × Value)) : List Value := l.flatMap (fun p => (otC p.1.dst p.1.kind p.1.ballot p.1.slot p.2).toList)
def allO (ts : List Int) (k b s : Int) (xs : List Int) : List Om := ts.map fun t => ⟨t, k, b, s, xs⟩
def allP (ts : List Int) (k b s : Int) (xs : List Int) (bv : Value) : List (Om × Value) := ts.map fun t => (⟨t, k, b, s, xs⟩, bv)
theorem allP_fst (ts : List Int) (k b s : Int) (xs : List Int) (bv : Value) : (allP ts k b s xs bv).map Prod.fst = allO ts k b s xs := by simp [allP, allO, Function.comp_def]
theorem allP_len (ts : List Int) (k b s : Int) (xs : List Int) (bv : Value) : (allP ts k b s xs bv).length = ts.length := by simp [allP]
theorem allC_out (ts : List Int) (k b s : Int) (xs : List Int) (bv : Value) : allC ts k b s bv = outC (allP ts k b s xs bv) := by
  unfold allC outC allP
  rw [List.flatMap_map]
theorem outC_app (a b : List (Om × Value)) : outC (a ++ b) = outC a ++ outC b := List.flatMap_append
/-- Proposals of votes for all. -/
def accO (hs : List Vt) (ps : List Int) : List Om := hs.flatMap (fun v => allO ps 9 v.ballot v.slot v.val)
def accP (l : List (Vt × Value)) (ps : List Int) : List (Om × Value) := l.flatMap (fun p => allP ps 9 p.1.ballot p.1.slot p.1.val p.2)
theorem accP_fst (l : List (Vt × Value)) (ps : List Int) : (accP l ps).map Prod.fst = accO (l.map Prod.fst) ps := by
  unfold accP accO
  rw [List.flatMap_map]
  induction l with
  | nil => rfl
  | cons p r ih => simp only [List.flatMap_cons, List.map_append, ih, allP_fst]
theorem accP_len (l : List (Vt × Value)) (ps : List Int) : (accP l ps).length = l.length * ps.length := by
  unfold accP
  induction l with
  | nil => simp
  | cons p r ih => simp only [List.flatMap_cons, List.length_append, ih, allP_len, List.length_cons, Nat.succ_mul]; omega
theorem accC_out (l : List (Vt × Value)) (ps : List Int) : accC l ps = outC (accP l ps) := by
  unfold accC accP
  induction l with
  | nil => rfl
  | cons p r ih => simp only [List.flatMap_cons, outC_app, ih]; rw [allC_out _ _ _ _ p.1.val]
/-- Slices that are read as bytes. -/
def obBod (l : List (Value × List Int)) : Ob := ⟨fun k => ∃ p ∈ l, p.1.ownBlock = some k, fun w => ∀ p ∈ l, SlR w p.1 (u8s p.2) ∧ ∀ k, p.1.ownBlock = some k → k < w.heap.size⟩
theorem obBod_good (l : List (Value × List Int)) : (obBod l).Good :=
  ⟨fun {S w w'} h hk hs p hp => ⟨(h p hp).1.keep hk (fun k hv hS => hs k hS ⟨p, hp, hv⟩), fun k hv => Nat.lt_of_lt_of_le ((h p hp).2 k hv) hk.size⟩, fun {w} h k hk => by
    obtain ⟨p, hp, hv⟩ := hk
    exact (h p hp).2 k hv⟩
section
variable {W w w' : World} {os : List Ob}
/-- The first thing seen as another one, of no more blocks. -/
theorem SepW.as {a b : Ob} (h : SepW W w (a :: os)) (g : b.Good) (hi : b.inv w) (hf : ∀ k, b.foot k → a.foot k) : SepW W w (b :: os) :=
  ⟨h.sep.head (Keep.refl _ _) g hi (fun k hk => Or.inl (hf k hk)), h.below⟩
theorem SepW.as2 {a b c : Ob} (h : SepW W w (a :: b :: os)) (g : c.Good) (hi : c.inv w) (hf : ∀ k, c.foot k → a.foot k ∨ b.foot k) : SepW W w (c :: os) :=
  ⟨h.sep.join (Keep.refl _ _) g hi (fun k hk => Or.inl (hf k hk)), h.below⟩
theorem SepW.nilBod (h : SepW W w os) : SepW W w (obBod [] :: os) := h.new (Below.refl _ _) (obBod_good _) (by intro p hp; cases hp) (fun k ⟨p, hp, _⟩ => by cases hp)
theorem SepW.nilRow (h : SepW W w os) (e : TypeId) (z : Nat) : SepW W w (obRow (.slice none 0 0) e z 0 [] :: os) := h.new (Below.refl _ _) (obRow_good ..) (World.ownsRow_nil _ _ _ _) (fun k hk => by cases hk)
/-- A row of bytes as a slice that is read. -/
theorem SepW.rowBod {v : Value} {e : TypeId} {n : Nat} {xs : List Int} (h : SepW W w (obRow v e 1 n (u8s xs) :: os)) : SepW W w (obBod [(v, xs)] :: os) :=
  h.as (obBod_good _) (fun p hp => by
    have hr : w.ownsRow 0 e 1 v n (u8s xs) := h.get 0 rfl
    obtain rfl : p = (v, xs) := by simpa using hp
    exact ⟨SlR.of_own hr, fun k hk => (hr.lt k hk).2⟩) (fun k ⟨p, hp, hk⟩ => by
    obtain rfl : p = (v, xs) := by simpa using hp
    exact hk)
/-- Slices beside slices. -/
theorem SepW.bodApp {l m : List (Value × List Int)} (h : SepW W w (obBod l :: obBod m :: os)) : SepW W w (obBod (l ++ m) :: os) :=
  h.as2 (obBod_good _) (fun p hp => (List.mem_append.1 hp).elim ((h.get 0 rfl : (obBod l).inv w) p) ((h.get 1 rfl : (obBod m).inv w) p)) (fun _ ⟨p, hp, hk⟩ => (List.mem_append.1 hp).imp (fun hp => ⟨p, hp, hk⟩) (fun hp => ⟨p, hp, hk⟩))
/-- Fewer of them. -/
theorem SepW.bodSub {l m : List (Value × List Int)} (h : SepW W w (obBod l :: os)) (hs : ∀ p ∈ m, p ∈ l) : SepW W w (obBod m :: os) :=
  h.as (obBod_good _) (fun p hp => (h.get 0 rfl : (obBod l).inv w) p (hs p hp)) (fun _ ⟨p, hp, hk⟩ => ⟨p, hs p hp, hk⟩)
/-- Votes of one's own, as votes beside their slices. -/
theorem SepW.vtsS {tv : Value} {e : TypeId} {vs : List Value} {hs : List Vt} (h : SepW W w (obVts tv e vs hs :: os)) : ∃ l : List (Vt × Value), l.map Prod.fst = hs ∧ VtS w tv l ∧ SepW W w (obBod (l.map fun p => (p.2, p.1.val)) :: os) := by
  have hv : (obVts tv e vs hs).inv w := h.get 0 rfl
  obtain ⟨hown, hvc, hlt⟩ := hv
  have hch : ∀ i : Fin hs.length, ∃ sv, vs[i.1 * 3 + 2]? = some sv ∧ SlR w sv (u8s hs[i.1].val) := fun i => by
    obtain ⟨_, _, h3⟩ := hvc.2 i.1 hs[i.1] (List.getElem?_eq_getElem i.2)
    exact h3
  obtain ⟨f, hf⟩ := Classical.axiomOfChoice hch
  obtain ⟨l, hl⟩ : ∃ l : List (Vt × Value), l = List.ofFn (fun i : Fin hs.length => (hs[i.1], f i)) := ⟨_, rfl⟩
  have hfst : l.map Prod.fst = hs := by
    rw [hl]
    apply List.ext_getElem (by simp)
    intro i h1 h2
    simp
  have hlen : l.length = hs.length := by rw [hl]; simp
  have hat : ∀ (i : Nat) p, l[i]? = some p → ∃ hi : i < hs.length, p = (hs[i], f ⟨i, hi⟩) := fun i p hp => by
    have hi : i < hs.length := by have := (List.getElem?_eq_some_iff.1 hp).1; omega
    refine ⟨hi, ?_⟩
    rw [hl, List.getElem?_ofFn] at hp
    rw [dif_pos hi] at hp
    exact (Option.some.inj hp).symm
  refine ⟨l, hfst, ?_, h.as (obBod_good _) (fun p hp => ?_) (fun k ⟨p, hp, hk⟩ => ?_)⟩
  · rcases hown.2 with ⟨rfl, h0⟩ | ⟨g, cap, cur, rfl, hb, hg, hnc, hcm, hcs, htake⟩
    · have : l = [] := List.eq_nil_of_length_eq_zero (by omega)
      subst this
      exact VtS.nil w
    · unfold maxLen at hcm
      refine ⟨some ⟨g, 0, none⟩, cap, by rw [hlen], by omega, by omega, fun i p hp => ?_⟩
      obtain ⟨hi, rfl⟩ := hat i p hp
      obtain ⟨h1, h2, h3⟩ := hvc.2 i hs[i] (List.getElem?_eq_getElem hi)
      obtain ⟨h4, h5⟩ := hf ⟨i, hi⟩
      obtain ⟨bo, bc, he, _, _⟩ := h5.form
      rw [List.length_map] at he
      refine ⟨_, bo, bc, rfl, he, hown.cells (g := g) rfl _ _ h1, ?_, ?_⟩
      · rw [add_more _ _ _ (by omega)]; exact hown.cells (g := g) rfl _ _ h2
      · rw [add_more _ _ _ (by omega)]; exact hown.cells (g := g) rfl _ _ h4
  · obtain ⟨p', hp', rfl⟩ := List.mem_map.1 hp
    obtain ⟨i, hi⟩ := List.mem_iff_getElem?.1 hp'
    obtain ⟨hi', rfl⟩ := hat i p' hi
    obtain ⟨h4, h5⟩ := hf ⟨i, hi'⟩
    exact ⟨h5, fun k hk => (hlt _ (List.mem_of_getElem? h4) k hk).2⟩
  · obtain ⟨p', hp', rfl⟩ := List.mem_map.1 hp
    obtain ⟨i, hi⟩ := List.mem_iff_getElem?.1 hp'
    obtain ⟨hi', rfl⟩ := hat i p' hi
    obtain ⟨h4, h5⟩ := hf ⟨i, hi'⟩
    exact Or.inr ⟨_, List.mem_of_getElem? h4, hk⟩
end
/-- The outs as things: their row, and the slices that they hold. -/
abbrev outOs (v : Value) (l : List (Om × Value)) (os : List Ob) : List Ob := obRow v 85 12 l.length (outC l) :: obBod (l.map fun p => (p.2, p.1.body)) :: os
/-- What a handler comes to: a node and messages. -/
def RetH (W : World) (q : NdA) (os : List Ob) (y : Nd) (ms : List Om) (e : Ending) (w' : World) : Prop :=
  ∃ v l f, e = .returned v ∧ l.map Prod.fst = ms ∧ SepW W w' (outOs v l (ndOs q f y os))
section
variable {W w w' : World} {os : List Ob} {q : NdA} {f : NdF} {x : Nd}
theorem RetH.nothing (h : SepW W w (ndOs q f x os)) : RetH W q os x [] (.returned (.slice none 0 0)) w := ⟨_, [], f, rfl, rfl, h.nilBod.nilRow _ _⟩
theorem SepW.nilBods {l : List (Value × List Int)} (h : SepW W w os) (hl : ∀ p ∈ l, p = (.slice none 0 0, [])) : SepW W w (obBod l :: os) :=
  h.new (Below.refl _ _) (obBod_good _) (fun p hp => by rw [hl p hp]; exact ⟨⟨none, 0, rfl, by simp, by unfold maxLen; omega, by simp⟩, fun k hk => by cases hk⟩) (fun k ⟨p, hp, hk⟩ => by rw [hl p hp] at hk; cases hk)
/-- Outs that are all one message. -/
theorem RetH.all {v bv : Value} {ts xs : List Int} {k b s : Int} (h : SepW W w (obBod ((allP ts k b s xs bv).map fun p => (p.2, p.1.body)) :: ndOs q f x os)) (ho : w'.ownsRow w.heap.size 85 12 v ts.length (allC ts k b s bv)) (hb : Below w.heap.size w w') : RetH W q os x (allO ts k b s xs) (.returned v) w' := by
  rw [allC_out _ _ _ _ xs, ← allP_len ts k b s xs bv] at ho
  exact ⟨v, allP ts k b s xs bv, f, rfl, allP_fst .., h.newRow ho hb⟩
theorem RetH.all0 {v : Value} {ts : List Int} {k b s : Int} (h : SepW W w (ndOs q f x os)) (ho : w'.ownsRow w.heap.size 85 12 v ts.length (allC ts k b s (.slice none 0 0))) (hb : Below w.heap.size w w') : RetH W q os x (allO ts k b s []) (.returned v) w' :=
  RetH.all (h.nilBods (fun p hp => by
    obtain ⟨p', hp', rfl⟩ := List.mem_map.1 hp
    obtain ⟨t, _, rfl⟩ := List.mem_map.1 hp'
    rfl)) ho hb
theorem RetH.all1 {v bv : Value} {ts xs : List Int} {k b s : Int} (h : SepW W w (obBod [(bv, xs)] :: ndOs q f x os)) (ho : w'.ownsRow w.heap.size 85 12 v ts.length (allC ts k b s bv)) (hb : Below w.heap.size w w') : RetH W q os x (allO ts k b s xs) (.returned v) w' :=
  RetH.all (h.bodSub (fun p hp => by
    obtain ⟨p', hp', rfl⟩ := List.mem_map.1 hp
    obtain ⟨t, _, rfl⟩ := List.mem_map.1 hp'
    simp)) ho hb
/-- Outs that are proposals of votes. -/
theorem RetH.acc {v : Value} {l : List (Vt × Value)} {ps : List Int} (h : SepW W w (obBod (l.map fun p => (p.2, p.1.val)) :: ndOs q f x os)) (ho : w'.ownsRow w.heap.size 85 12 v (l.length * ps.length) (accC l ps)) (hb : Below w.heap.size w w') : RetH W q os x (accO (l.map Prod.fst) ps) (.returned v) w' := by
  rw [accC_out, ← accP_len l ps] at ho
  exact ⟨v, accP l ps, f, rfl, accP_fst .., (h.bodSub (fun p hp => by
    obtain ⟨p', hp', rfl⟩ := List.mem_map.1 hp
    obtain ⟨r, hr, hp'⟩ := List.mem_flatMap.1 hp'
    obtain ⟨t, _, rfl⟩ := List.mem_map.1 hp'
    exact List.mem_map.2 ⟨r, hr, rfl⟩)).newRow ho hb⟩
end
end Go.Proofs.YtgmdedkingampaaGreat

namespace Go.Proofs.YtgmdedkingampaaGreat
open Go.ChangeShapes Go.WideShapes Go.ChangeAt Go.RowKit Go.Maps
set_option maxRecDepth 1000000
set_option linter.unusedVariables false
set_option linter.unusedSimpArgs false

section
variable {W w w' : World} {os : List Ob} {q : NdA} {f : NdF} {x : Nd}
/-- A thing goes behind the node, or comes from there. -/
theorem SepW.behind {o : Ob} (h : SepW W w (o :: ndOs q f x os)) : SepW W w (ndOs q f x (o :: os)) :=
  h.perm (List.perm_middle (l₁ := [_, _, _, _, _, _, _, _])).symm
theorem SepW.ahead {o : Ob} (h : SepW W w (ndOs q f x (o :: os))) : SepW W w (o :: ndOs q f x os) :=
  h.perm (List.perm_middle (l₁ := [_, _, _, _, _, _, _, _]))
theorem SepW.tail {o : Ob} (h : SepW W w (o :: os)) : SepW W w os := h.sub (List.sublist_cons_self ..)
theorem SepW.ndRest (h : SepW W w (ndOs q f x os)) : SepW W w os := h.sub (List.sublist_append_right [_, _, _, _, _, _, _, _] _)
theorem noteN_same (x : Nd) (bs : List Int) : (noteN x bs).id = x.id ∧ (noteN x bs).ps = x.ps ∧ (noteN x bs).NA = x.NA ∧ (noteN x bs).A = x.A ∧ (noteN x bs).nl = x.nl ∧ (noteN x bs).kn = x.kn ∧ (noteN x bs).next = x.next ∧ (noteN x bs).NL = x.NL ∧ (noteN x bs).L = x.L ∧ (noteN x bs).t = x.t ∧ (noteN x bs).lf = x.lf ∧ (noteN x bs).top = x.top := by
  unfold noteN
  split <;> exact ⟨rfl, rfl, rfl, rfl, rfl, rfl, rfl, rfl, rfl, rfl, rfl, rfl⟩

theorem nd_up (h : SepW W w (ndOs q f x os)) : Calls Tryz.prog 31 #[.pointer (some ⟨q.x, 0, none⟩)] w fun e w' => e = .returned (.bool (decide (x.e = 0))) ∧ w = w' := by
  obtain ⟨⟨-, -, -, -, -, -, -, c7⟩, -⟩ := h.ndCell 0 rfl
  clear h
  go_enter Tryz.func31, Tryz.ntmps31
  go_wp2_with fail
  go_ret
  exact ⟨by congr 2, rfl⟩
theorem nd_up_nil (w : World) : Calls Tryz.prog 31 #[.pointer none] w fun e w' => e = .returned (.bool false) ∧ w = w' := by
  go_enter Tryz.func31, Tryz.ntmps31
  go_wp2_with fail
  go_ret
  exact ⟨rfl, rfl⟩
theorem nd_told (h : SepW W w (ndOs q f x os)) (v : Value) : Calls Tryz.prog 56 #[.pointer (some ⟨q.x, 0, none⟩), v] w fun e w' => e = .returned (if x.e = 0 then v else .slice none 0 0) ∧ w = w' := by
  have HU := Lib.hid (nd_up h)
  clear h
  go_enter Tryz.func56, Tryz.ntmps56
  go_wp2_with fail
  refine HU.out.mono ?_
  rintro e w1 ⟨rfl, rfl⟩
  clear HU
  by_cases h0 : x.e = 0
  · rw [decide_eq_true h0]
    have H0 := Lib.hid h0
    clear h0
    go_wp2_with fail
    go_ret
    exact ⟨rfl, rfl⟩
  · rw [decide_eq_false h0]
    have H0 := Lib.hid h0
    clear h0
    go_wp2_with fail
    go_ret
    exact ⟨rfl, rfl⟩
set_option maxHeartbeats 1000000 in
theorem nd_nack (h : SepW W w (ndOs q f x os)) (t : Int) : Calls Tryz.prog 87 #[.pointer (some ⟨q.x, 0, none⟩), .int .i64 t] w (RetH W q os x (allO [t] 11 x.A.promised 0 [])) := by
  obtain ⟨⟨-, -, -, c3, -, -, -, -⟩, -⟩ := h.ndCell 0 rfl
  have H := Lib.hid h
  have HP := Lib.hid (h.accPromised 3 rfl)
  have HL := Lib.hid (h.litRow [.int .i64 t] 3 (by simp))
  clear h
  go_enter Tryz.func87, Tryz.ntmps87
  go_wp2_with fail
  refine HP.out.mono ?_
  rintro e w1 ⟨rfl, rfl⟩
  have HA := Lib.hid (all_any (ts := [t]) (HL.out.row 0 rfl) (by simp) 11 x.A.promised 0 none 0 0)
  go_wp2_with fail
  refine HA.out.mono ?_
  rintro e w2 ⟨ao, c, rfl, ho, hb⟩
  have HO := Lib.hid ho
  have HB := Lib.hid hb
  clear ho hb HA
  go_wp2_with fail
  go_ret
  exact RetH.all0 HL.out.tail HO.out HB.out

/-- A node behind a value that it learned. -/
def learnN (x : Nd) (slot : Int) (xs : List Int) (nx : Int) : Nd :=
  if (x.kn slot).isSome = true ∨ slot = 18446744073709551615 then x
  else if (noteN x (noteB 3 [slot] (some xs))).e = 0 then { noteN x (noteB 3 [slot] (some xs)) with nl := x.nl + 1, kn := Ln.putK x.kn slot xs, next := nx }
  else noteN x (noteB 3 [slot] (some xs))
set_option maxHeartbeats 2000000 in
theorem nd_learn (h : SepW W w (ndOs q f x os)) {slot : Int} {bv : Value} {xs : List Int} (us : U1 slot) (hb : Held W os bv (u8s xs)) (ux : U8 xs) (lx : xs.length ≤ 3900) (hr : Room x (noteB 3 [slot] (some xs)).length) (he : x.e = 0) (hn : x.nl < 1000000) :
    Calls Tryz.prog 96 #[.pointer (some ⟨q.x, 0, none⟩), .int .u64 slot, bv] w fun e w' => e = .returned (.tuple #[]) ∧ ∃ f' nx, SepW W w' (ndOs q f' (learnN x slot xs nx) os) := by
  obtain ⟨bo, bc, rfl, hbc, hbc2⟩ := (hb.at0 h.ndRest).form
  simp only [List.length_map] at hb hbc hbc2 ⊢
  obtain ⟨⟨-, -, -, -, c4, -, -, -⟩, -⟩ := h.ndCell 0 rfl
  have HG := Lib.hid (h.lnGet 4 rfl us)
  have HUs := Lib.hid us
  have HB := Lib.hid hb
  have HUx := Lib.hid ux
  have HR := Lib.hid hr
  have HE := Lib.hid he
  have H := Lib.hid h
  clear h us hb ux hr he
  go_enter Tryz.func96, Tryz.ntmps96
  go_wp2_with fail
  refine HG.out.mono ?_
  rintro e w1 ⟨v1, rfl, hs1, -⟩
  have HS1 := Lib.hid hs1.tail
  clear hs1 HG c4
  by_cases hk : (x.kn slot).isSome = true
  · have hl : learnN x slot xs 0 = x := by unfold learnN; rw [if_pos (Or.inl hk)]
    have HL := Lib.hid hl
    rw [hk]
    clear hl hk
    go_wp2_with fail
    first | go_end0 | (refine bodyPost_ret (results_none rfl _ _ _) rfl ?_)
    exact ⟨rfl, f, 0, by rw [HL.out]; exact HS1.out⟩
  · have hkn : (x.kn slot).isSome = false := by simpa using hk
    have hgt : decide ((4000 : Int) < (xs.length : Int)) = false := decide_eq_false (by omega)
    by_cases hm : slot = 18446744073709551615
    · have hl : learnN x slot xs 0 = x := by unfold learnN; rw [if_pos (Or.inr hm)]
      have HL := Lib.hid hl
      have hme : (slot == 18446744073709551615) = true := by simp [hm]
      rw [hkn]
      clear hl hk hkn hm
      go_wp2_with fail
      first | go_end0 | (refine bodyPost_ret (results_none rfl _ _ _) rfl ?_)
      exact ⟨rfl, f, 0, by rw [HL.out]; exact HS1.out⟩
    · have hme : (slot == 18446744073709551615) = false := by simp [hm]
      have hnone : x.kn slot = none := by simpa using hkn
      have hlit := (HS1.out.litRow [.int .u64 slot] 39 (by simp)).behind
      have HN := Lib.hid (nd_note hlit (kd := 3) (by decide) (ns := [slot]) (Held.row 0 rfl) (by simpa using HUs.out) (by simp) (HB.out.more [_]) HUx.out lx true (by simpa using HR.out) HE.out)
      have HNone := Lib.hid hnone
      have hlt : slot < 18446744073709551615 := by have := HUs.out.2; omega
      have HLt := Lib.hid hlt
      have hln : ∀ nx, learnN x slot xs nx = if (noteN x (noteB 3 [slot] (some xs))).e = 0 then { noteN x (noteB 3 [slot] (some xs)) with nl := x.nl + 1, kn := Ln.putK x.kn slot xs, next := nx } else noteN x (noteB 3 [slot] (some xs)) := fun nx => by unfold learnN; rw [if_neg (by simp [hkn, hm])]
      have HLn := Lib.hid hln
      have hsm := noteN_same x (noteB 3 [slot] (some xs))
      obtain ⟨y, hy⟩ : ∃ y, noteN x (noteB 3 [slot] (some xs)) = y := ⟨_, rfl⟩
      simp only [if_true] at HN
      rw [hy] at HN HLn hsm
      have HSm := Lib.hid hsm
      rw [hkn]
      clear hlit hk hkn hnone hm hln hsm hlt hy
      go_wp2_with fail
      refine HN.out.mono ?_
      rintro e w2 ⟨rfl, f2, hs2⟩
      have HS2 := Lib.hid hs2
      clear hs2 HN HS1
      obtain ⟨⟨-, -, -, -, c4, -, -, -⟩, -⟩ := HS2.out.ndCell 0 rfl
      by_cases h0 : y.e = 0
      · rw [decide_eq_true h0]
        have HLe := Lib.hid (HS2.out.lnLearn 4 rfl HUs.out.1 HLt.out ((HB.out.more [_]).at0 HS2.out.ndRest) HUx.out (by omega) (by rw [HSm.out.2.2.2.2.1]; exact hn) (by rw [HSm.out.2.2.2.2.2.1]; exact HNone.out))
        have H0 := Lib.hid h0
        clear h0
        go_wp2_with fail
        refine HLe.out.mono ?_
        rintro e w3 ⟨rfl, D3, nx, hs3⟩
        have hs3' : SepW W w3 (ndOs q { f2 with ln := D3 } { y with nl := y.nl + 1, kn := Ln.putK y.kn slot xs, next := nx } (_ :: os)) := hs3
        have HS3 := Lib.hid hs3'.ahead.tail
        clear hs3 hs3' HLe c4
        go_wp2_with fail
        first | go_end0 | (refine bodyPost_ret (results_none rfl _ _ _) rfl ?_)
        refine ⟨rfl, { f2 with ln := D3 }, nx, ?_⟩
        rw [HLn.out, if_pos H0.out, ← HSm.out.2.2.2.2.1, ← HSm.out.2.2.2.2.2.1]
        exact HS3.out
      · rw [decide_eq_false h0]
        have H0 := Lib.hid h0
        clear h0
        go_wp2_with fail
        first | go_end0 | (refine bodyPost_ret (results_none rfl _ _ _) rfl ?_)
        refine ⟨rfl, f2, 0, ?_⟩
        rw [HLn.out, if_neg H0.out]
        exact HS2.out.ahead.tail
end
end Go.Proofs.YtgmdedkingampaaGreat

namespace Go.Proofs.YtgmdedkingampaaGreat
open Go.ChangeShapes Go.WideShapes Go.ChangeAt Go.RowKit Go.Maps
set_option maxRecDepth 1000000
set_option linter.unusedVariables false
set_option linter.unusedSimpArgs false

/-- What else a message holds. -/
structure Mo where
  a : Value
  b : Value
  c : Value
  d : Value
  e : Value
  f : Value
  g : Value
abbrev msC (k b s : Int) (o : Mo) (bv : Value) : Array Value := #[.int .i64 k, .int .u64 b, .int .u64 s, o.a, o.b, o.c, o.d, o.e, o.f, o.g, bv]
/-- A node that heard of a ballot. -/
def heardN (x : Nd) (b : Int) : Nd := { x with lf := if b < x.top then x.lf else x.t, top := if b < x.top then x.top else b }
def refusedN (x : Nd) (b : Int) : Nd := if x.L.ballot < b then heardN { x with L := stopL x.L } b else x
section
variable {W w w' : World} {os : List Ob} {q : NdA} {f : NdF} {x : Nd}
theorem nd_heard (h : SepW W w (ndOs q f x os)) (b : Int) : Calls Tryz.prog 46 #[.pointer (some ⟨q.el, 0, none⟩), .int .u64 b] w fun e w' => e = .returned (.bool (decide (x.top ≤ b))) ∧ SepW W w' (ndOs q f (heardN x b) os) := by
  unfold heardN
  by_cases hb : b < x.top
  · simp only [if_pos hb]
    rw [decide_eq_false (by omega)]
    exact (h.elHeardNo 6 rfl hb).mono fun e w' ⟨h1, h2⟩ => ⟨h1, h2 ▸ h⟩
  · simp only [if_neg hb]
    rw [decide_eq_true (by omega)]
    exact (h.elHeard 6 rfl (by omega)).mono fun e w' ⟨h1, h2⟩ => ⟨h1, h2⟩
theorem nd_stopL (h : SepW W w (ndOs q f x os)) : Calls Tryz.prog 97 #[.pointer q.lp] w fun e w' => e = .returned (.tuple #[]) ∧ SepW W w' (ndOs q f { x with L := stopL x.L } os) := h.leaStop 5 rfl
/-- A message's cells, read. -/
theorem SepW.msCell {m : Nat} {k b s : Int} {o : Mo} {bv : Value} (h : SepW W w os) (i : Nat) (hi : os[i]? = some (obBlk m (.cells (msC k b s o bv) 42))) :
    w.cell? ⟨m, 0, none⟩ = some (.int .i64 k) ∧ w.cell? ⟨m, 1, none⟩ = some (.int .u64 b) ∧ w.cell? ⟨m, 2, none⟩ = some (.int .u64 s) ∧ w.cell? ⟨m, 10, none⟩ = some bv := by
  have hb : w.heap[m]? = some (.cells (msC k b s o bv) 42 (0, 0)) := h.get i hi
  refine ⟨?_, ?_, ?_, ?_⟩ <;> simp [World.cell?, hb]
/-- The message in its box. -/
theorem SepW.boxed {w0 : World} (h : SepW W w (ndOs q f x os)) (k b s : Int) (o : Mo) (bv : Value) (h0 : w0 = w.alloc (.cells (msC k b s o bv) 42)) : SepW W w0 (ndOs q f x (obBlk w.heap.size (.cells (msC k b s o bv) 42) :: os)) := by
  rw [h0]; exact (h.newBlk _ _).behind
set_option maxHeartbeats 2000000 in
theorem nd_refused (h : SepW W w (ndOs q f x os)) {k b s : Int} (o : Mo) (bv : Value) (t : Int) :
    Calls Tryz.prog 52 #[.pointer (some ⟨q.x, 0, none⟩), .int .i64 t, .agg (msC k b s o bv)] w (RetH W q os (refusedN x b) []) := by
  obtain ⟨W0, hW0⟩ : ∃ y, y = w.alloc (.cells (msC k b s o bv) 42) := ⟨_, rfl⟩
  have H := Lib.hid (h.boxed k b s o bv hW0)
  have HW := Lib.hid hW0
  clear h hW0
  go_enter Tryz.func52, Tryz.ntmps52
  go_upto_region 1 with fail
  rw [← HW.out]
  generalize w.heap.size = m at *
  clear HW
  obtain ⟨⟨-, -, -, -, -, c5, -, -⟩, -⟩ := H.out.ndCell 0 rfl
  obtain ⟨-, d1, -, -⟩ := H.out.msCell 8 rfl
  go_quiet ((go_at_call 37; exact quiet_same ((H.out.drewN _).leaBallot 5 rfl)))
  have H1 := Lib.hid (H.out.drewN nq)
  generalize W0.drewN nq = w1 at *
  clear H c5 d1
  obtain ⟨⟨-, -, -, -, -, c5, -, -⟩, -⟩ := H1.out.ndCell 0 rfl
  by_cases hlt : x.L.ballot < b
  · have hn : refusedN x b = heardN { x with L := stopL x.L } b := by unfold refusedN; rw [if_pos hlt]
    have HN := Lib.hid hn
    rw [decide_eq_true hlt]
    have HS := Lib.hid (nd_stopL H1.out)
    clear hlt hn H1
    go_wp2_with fail
    refine HS.out.mono ?_
    rintro e w2 ⟨rfl, hs2⟩
    have HH := Lib.hid (nd_heard hs2.drew b)
    obtain ⟨⟨-, -, -, -, -, -, c6, -⟩, -⟩ := hs2.ndCell 0 rfl
    obtain ⟨-, d1, -, -⟩ := hs2.msCell 8 rfl
    clear hs2 HS c5
    go_wp2_with fail
    go_region_held3 (fun w' => w'.cell? ⟨q.x, 6, none⟩ = some (.pointer (some ⟨q.el, 0, none⟩)) ∧ w'.cell? ⟨m, 1, none⟩ = some (.int .u64 b)) (first | with_reducible exact hS7 | go_keep)
      (first
        | (go_at_call 46; (with_reducible refine HH.out.mono ?_); rintro e w7 ⟨rfl, hs7⟩
           obtain ⟨⟨-, -, -, -, -, -, z6, -⟩, -⟩ := hs7.ndCell 0 rfl
           obtain ⟨-, z1, -, -⟩ := hs7.msCell 8 rfl
           have hS7 : w7.cell? ⟨q.x, 6, none⟩ = some (.pointer (some ⟨q.el, 0, none⟩)) ∧ w7.cell? ⟨m, 1, none⟩ = some (.int .u64 b) := ⟨z6, z1⟩
           have HS7 := Lib.hid hs7.ahead.tail
           clear hs7))
    all_goals
      go_wp2_with fail
      go_ret
      rw [HN.out]
      exact RetH.nothing HS7.out
  · have hn : refusedN x b = x := by unfold refusedN; rw [if_neg hlt]
    have HN := Lib.hid hn
    rw [decide_eq_false hlt]
    clear hlt hn
    go_wp2_with fail
    go_ret
    rw [HN.out]
    exact RetH.nothing H1.out.ahead.tail
set_option maxHeartbeats 2000000 in
theorem nd_learned (h : SepW W w (ndOs q f x os)) {k b s : Int} (o : Mo) {bv : Value} {xs : List Int} (t : Int) (us : U1 s) (hb : Held W os bv (u8s xs)) (ux : U8 xs) (lx : xs.length ≤ 3900) (hr : Room x (noteB 3 [s] (some xs)).length) (he : x.e = 0) (hn : x.nl < 1000000) :
    Calls Tryz.prog 53 #[.pointer (some ⟨q.x, 0, none⟩), .int .i64 t, .agg (msC k b s o bv)] w fun e w' => ∃ nx, RetH W q os (learnN x s xs nx) [] e w' := by
  obtain ⟨W0, hW0⟩ : ∃ y, y = w.alloc (.cells (msC k b s o bv) 42) := ⟨_, rfl⟩
  have hbx := h.boxed k b s o bv hW0
  have HL := Lib.hid (nd_learn hbx us (hb.more [_]) ux lx hr he hn)
  obtain ⟨-, -, d2, d10⟩ := hbx.msCell 8 rfl
  have HW := Lib.hid hW0
  clear h hW0 hbx us hb ux hr he
  go_enter Tryz.func53, Tryz.ntmps53
  go_upto_region 1 with fail
  rw [← HW.out]
  generalize w.heap.size = m at *
  clear HW
  go_wp2_with fail
  refine HL.out.mono ?_
  rintro e w2 ⟨rfl, f2, nx, hs2⟩
  have HS2 := Lib.hid hs2.ahead.tail
  clear hs2 HL d2 d10
  go_wp2_with fail
  go_ret
  exact ⟨nx, RetH.nothing HS2.out⟩
def beatN (x : Nd) (b : Int) : Nd := if x.L.ballot < b then { heardN x b with L := stopL x.L } else heardN x b
theorem beatN_next (x : Nd) (b : Int) : (beatN x b).next = x.next := by unfold beatN; split <;> rfl
def beatF (x : Nd) (t b s : Int) : Nd × List Om := if b < x.top then (heardN x b, []) else if s ≤ x.next then (beatN x b, []) else (beatN x b, allO [t] 13 0 x.next [])
set_option maxHeartbeats 4000000 in
theorem nd_beat (h : SepW W w (ndOs q f x os)) {k b s : Int} (o : Mo) (bv : Value) (t : Int) :
    Calls Tryz.prog 55 #[.pointer (some ⟨q.x, 0, none⟩), .int .i64 t, .agg (msC k b s o bv)] w (RetH W q os (beatF x t b s).1 (beatF x t b s).2) := by
  obtain ⟨W0, hW0⟩ : ∃ y, y = w.alloc (.cells (msC k b s o bv) 42) := ⟨_, rfl⟩
  have H := Lib.hid (h.boxed k b s o bv hW0)
  have HW := Lib.hid hW0
  clear h hW0
  go_enter Tryz.func55, Tryz.ntmps55
  go_upto_region 1 with fail
  rw [← HW.out]
  generalize w.heap.size = m at *
  clear HW
  have HH := Lib.hid (nd_heard H.out.drew b)
  obtain ⟨⟨-, -, -, -, -, -, c6, -⟩, -⟩ := H.out.ndCell 0 rfl
  obtain ⟨-, d1, -, -⟩ := H.out.msCell 8 rfl
  clear H
  go_region_held3 (fun w' => w'.cell? ⟨q.x, 6, none⟩ = some (.pointer (some ⟨q.el, 0, none⟩)) ∧ w'.cell? ⟨m, 1, none⟩ = some (.int .u64 b)) (first | with_reducible exact hS7 | go_keep)
    (first
      | (go_at_call 46; (with_reducible refine HH.out.mono ?_); rintro e w7 ⟨rfl, hs7⟩
         obtain ⟨⟨-, -, -, -, -, -, z6, -⟩, -⟩ := hs7.ndCell 0 rfl
         obtain ⟨-, z1, -, -⟩ := hs7.msCell 8 rfl
         have hS7 : w7.cell? ⟨q.x, 6, none⟩ = some (.pointer (some ⟨q.el, 0, none⟩)) ∧ w7.cell? ⟨m, 1, none⟩ = some (.int .u64 b) := ⟨z6, z1⟩
         have HS7 := Lib.hid hs7
         clear hs7))
  all_goals
    clear HH hS7 c6 d1
    by_cases htop : b < x.top
    · have hF : beatF x t b s = (heardN x b, []) := by unfold beatF; rw [if_pos htop]
      have HF := Lib.hid hF
      rw [decide_eq_false (by omega : ¬ x.top ≤ b)]
      clear htop hF
      go_wp2_with fail
      go_ret
      rw [HF.out]
      exact RetH.nothing HS7.out.ahead.tail
    · rw [decide_eq_true (by omega : x.top ≤ b)]
      have hF : beatF x t b s = if s ≤ x.next then (beatN x b, []) else (beatN x b, allO [t] 13 0 x.next []) := by unfold beatF; rw [if_neg htop]
      have HF := Lib.hid hF
      clear htop hF
      obtain ⟨⟨-, -, -, -, -, c5, -, -⟩, -⟩ := HS7.out.ndCell 0 rfl
      obtain ⟨-, d1, -, -⟩ := HS7.out.msCell 8 rfl
      go_wp2_with fail
      go_quiet ((go_at_call 37; exact quiet_same ((HS7.out.drewN _).leaBallot 5 rfl)))
      have H1 := Lib.hid (HS7.out.drewN nq)
      generalize w7.drewN nq = w1 at *
      clear HS7 c5 d1
      go_upto_if 22 with fail
      go_cut [] from 7 (fun w' => SepW W w' (ndOs q f (beatN x b) (obBlk m (.cells (msC k b s o bv) 42) :: os)))
      case first =>
        by_cases hlt : x.L.ballot < b
        · have hn : beatN x b = { heardN x b with L := stopL x.L } := by unfold beatN; rw [if_pos hlt]
          have HN := Lib.hid hn
          rw [show decide ((heardN x b).L.ballot < b) = true from decide_eq_true hlt]
          obtain ⟨⟨-, -, -, -, -, c5, -, -⟩, -⟩ := H1.out.ndCell 0 rfl
          have HS := Lib.hid (nd_stopL H1.out)
          clear hlt hn H1
          go_wp2_with fail
          refine HS.out.mono ?_
          rintro e w2 ⟨rfl, hs2⟩
          have HS2 := Lib.hid hs2
          clear hs2 HS c5
          go_wp2_with fail
          go_meet
          case rel => rw [HN.out]; exact HS2.out
        · have hn : beatN x b = heardN x b := by unfold beatN; rw [if_neg hlt]
          have HN := Lib.hid hn
          rw [show decide ((heardN x b).L.ballot < b) = false from decide_eq_false hlt]
          clear hlt hn
          go_wp2_with fail
          go_meet
          case rel => rw [HN.out]; exact H1.out
      case rest =>
        have HC := Lib.hid hcut
        clear hcut H1
        obtain ⟨⟨-, -, -, -, c4, -, -, -⟩, -⟩ := HC.out.ndCell 0 rfl
        obtain ⟨-, -, d2, -⟩ := HC.out.msCell 8 rfl
        go_wp2_with fail
        go_quiet ((go_at_call 29; exact quiet_same ((HC.out.drewN _).lnNext 4 rfl)))
        have H1 := Lib.hid (HC.out.drewN nq)
        generalize wc.drewN nq = w3 at *
        clear HC c4 d2
        rw [beatN_next]
        by_cases hle : s ≤ x.next
        · have HF2 := Lib.hid (HF.out.trans (if_pos hle))
          rw [decide_eq_true hle]
          clear hle HF
          go_wp2_with fail
          go_ret
          rw [HF2.out]
          exact RetH.nothing H1.out.ahead.tail
        · have HF2 := Lib.hid (HF.out.trans (if_neg hle))
          rw [decide_eq_false hle]
          obtain ⟨⟨-, -, -, -, c4, -, -, -⟩, -⟩ := H1.out.ndCell 0 rfl
          have HX := Lib.hid (H1.out.lnNext 4 rfl)
          rw [beatN_next] at HX
          have hl := H1.out.ahead.tail.litRow [.int .i64 t] 3 (by simp)
          have HL := Lib.hid hl
          have HA := Lib.hid (all_any (ts := [t]) (hl.row 0 rfl) (by simp) 13 0 x.next none 0 0)
          clear hle HF hl H1
          go_wp2_with fail
          refine HX.out.mono ?_
          rintro e w4 ⟨rfl, rfl⟩
          clear HX
          go_wp2_with fail
          refine HA.out.mono ?_
          rintro e w5 ⟨ao, c, rfl, ho, hb⟩
          have HO := Lib.hid ho
          have HB := Lib.hid hb
          clear ho hb HA
          go_wp2_with fail
          go_ret
          rw [HF2.out]
          exact RetH.all0 HL.out.tail HO.out HB.out
end
end Go.Proofs.YtgmdedkingampaaGreat
