/-
  Law 17: a cluster's calls one by one, as a law's loop makes them.
-/
import Derived.Test.YtgmdedkingampaaGreatPxW
set_option linter.unusedVariables false
set_option linter.unusedSimpArgs false
namespace Go.Proofs.YtgmdedkingampaaGreat
open Go.ChangeShapes Go.WideShapes Go.ChangeAt Go.RowKit Go.Maps
set_option maxRecDepth 1000000

section
variable {W w w' : World} {os : List Ob} {c : Nat} {dv nv : Value} {qs : List NdA} {xs : List Nd} {ms : List (Int × Om)}
/-- A cluster, and outs of a node beside it. -/
def CluO (W w : World) (os : List Ob) (c : Nat) (dv nv : Value) (qs : List NdA) (xs : List Nd) (ms : List (Int × Om)) (v : Value) (outs : List Om) : Prop :=
  ∃ l : List (Om × Value), l.map Prod.fst = outs ∧ Clu W w (outOs v l os) c dv nv qs xs ms
theorem Clu.step (h : Clu W w os c dv nv qs xs ms) (hb : Below w.heap.size w w') : Clu W w' os c dv nv qs xs ms := by
  obtain ⟨mv, L, M, B, h1, h2⟩ := h
  exact ⟨mv, L, M, B, h1.step hb, h2⟩
theorem Clu.below (h : Clu W w os c dv nv qs xs ms) : Below W.heap.size W w := by
  obtain ⟨mv, L, M, B, h1, h2⟩ := h
  exact h1.below
theorem CluO.step {v : Value} {outs : List Om} (h : CluO W w os c dv nv qs xs ms v outs) (hb : Below w.heap.size w w') : CluO W w' os c dv nv qs xs ms v outs := by
  obtain ⟨l, h1, h2⟩ := h
  exact ⟨l, h1, h2.step hb⟩
theorem clOs_tail {mv : Value} {L : List Nq} {M : List (Int × Om × Value)} {B : List (Value × List Int)} (fr os : List Ob) :
    (fr ++ clOs c dv nv mv L M B os).Perm (clOs c dv nv mv L M B (fr ++ os)) :=
  List.perm_append_comm_assoc fr ([_, _, _, _, _] ++ ndsOs L) os |>.trans (by rw [List.append_assoc]; exact List.Perm.refl _)
theorem Clu.sub {os' : List Ob} (h : Clu W w os c dv nv qs xs ms) (hs : os'.Sublist os) : Clu W w os' c dv nv qs xs ms := by
  obtain ⟨mv, L, M, B, h1, h2⟩ := h
  exact ⟨mv, L, M, B, h1.sub (List.Sublist.append (List.Sublist.refl [_, _, _, _, _]) (List.Sublist.append (List.Sublist.refl _) hs)), h2⟩
theorem CluO.drop {v : Value} {outs : List Om} (h : CluO W w os c dv nv qs xs ms v outs) : Clu W w os c dv nv qs xs ms := by
  obtain ⟨l, h1, h2⟩ := h
  exact h2.sub ((List.sublist_cons_self ..).trans (List.sublist_cons_self ..))
theorem CluO.form {v : Value} {outs : List Om} (h : CluO W w os c dv nv qs xs ms v outs) : ∃ ao c, v = .slice ao outs.length c := by
  obtain ⟨l, h1, mv, L, M, B, h2, _⟩ := h
  have h3 := h2.perm (clOs_tail [_, _] os).symm
  obtain ⟨ao, c, e, _⟩ := own_form (h3.get 0 rfl : w.ownsRow 0 85 12 v l.length (outC l))
  exact ⟨ao, c, by rw [e, ← h1, List.length_map]⟩
theorem Clu.len (h : Clu W w os c dv nv qs xs ms) : qs.length = xs.length := by
  obtain ⟨mv, L, M, B, h1, h2, h3, h4, h5⟩ := h
  rw [← h3, ← h4]
  unfold xOf
  rw [List.length_map, List.length_map]
theorem Clu.cells (h : Clu W w os c dv nv qs xs ms) : w.cell? ⟨c, 0, none⟩ = some (.int .i64 xs.length) ∧ w.cell? ⟨c, 1, none⟩ = some dv ∧ w.cell? ⟨c, 2, none⟩ = some nv ∧ ∃ mo mc, w.cell? ⟨c, 3, none⟩ = some (.slice mo ms.length mc) ∧ ms.length ≤ mc := by
  obtain ⟨mv, L, M, B, h1, h2, h3, h4, h5⟩ := h
  obtain ⟨c0, c1, c2, c3, -⟩ := h1.clCell 0 rfl
  obtain ⟨mo, mc, rfl, hm, -⟩ := (h1.get 1 rfl : OwnsSuf w 44 13 mv M.length (mailC M)).form
  have hl : L.length = xs.length := by rw [← h4]; unfold xOf; rw [List.length_map]
  have hml : M.length = ms.length := by rw [← h5]; unfold mOf; rw [List.length_map]
  rw [hl] at c0
  rw [hml] at c3 hm
  exact ⟨c0, c1, c2, mo, mc, c3, hm⟩
theorem Clu.vals (h : Clu W w os c dv nv qs xs ms) (hn : 0 < xs.length) : ∃ gd dc gn nc, dv = .slice (some ⟨gd, 0, none⟩) xs.length dc ∧ nv = .slice (some ⟨gn, 0, none⟩) xs.length nc := by
  obtain ⟨mv, L, M, B, h1, h2, h3, h4, h5⟩ := h
  have hl : L.length = xs.length := by rw [← h4]; unfold xOf; rw [List.length_map]
  have e2 := (h1.get 2 rfl : w.ownsRow 0 31 1 nv L.length (nodeV L)).2
  have e3 := (h1.get 3 rfl : w.ownsRow 0 53 1 dv L.length (diskV L)).2
  rw [hl] at e2 e3
  rcases e2 with ⟨_, e⟩ | ⟨gn, nc, _, e2, _⟩
  · omega
  · rcases e3 with ⟨_, e⟩ | ⟨gd, dc, _, e3, _⟩
    · omega
    · exact ⟨gd, dc, gn, nc, e3, e2⟩
/-- A node's place. -/
theorem Clu.node {n gd dc gn nc k : Nat} {x : Nd} (h : Clu W w os c (.slice (some ⟨gd, 0, none⟩) n dc) (.slice (some ⟨gn, 0, none⟩) n nc) qs xs ms) (hx : xs[k]? = some x) :
    ∃ q, qs[k]? = some q ∧ w.cell? ⟨gd, k, none⟩ = some (.pointer (some ⟨q.b0, 0, none⟩)) ∧ w.cell? ⟨gn, k, none⟩ = some (.pointer (some ⟨q.x, 0, none⟩)) := by
  obtain ⟨mv, L, M, B, h1, h2, h3, h4, h5⟩ := h
  rw [← h4] at hx
  unfold xOf at hx
  rw [List.getElem?_map] at hx
  obtain ⟨p, hp, _⟩ := Option.map_eq_some_iff.1 hx
  have hkl : k < L.length := (List.getElem?_eq_some_iff.1 hp).1
  have e2 : w.ownsRow 0 31 1 (.slice (some ⟨gn, 0, none⟩) n nc) L.length (nodeV L) := h1.get 2 rfl
  have e3 : w.ownsRow 0 53 1 (.slice (some ⟨gd, 0, none⟩) n dc) L.length (diskV L) := h1.get 3 rfl
  have hn : n = L.length := by
    rcases e2.2 with ⟨e, _⟩ | ⟨_, _, _, e, _⟩
    · cases e
    · cases e; rfl
  subst hn
  refine ⟨p.1, by rw [← h3, List.getElem?_map, hp]; rfl, ?_, ?_⟩
  · rw [e3.cellAt k (by omega)]
    unfold diskV
    rw [List.getElem?_map, hp]
    rfl
  · rw [e2.cellAt k (by omega)]
    unfold nodeV
    rw [List.getElem?_map, hp]
    rfl
/-- One node in sight: for calls that turn nothing. -/
theorem Clu.sight {k : Nat} {x : Nd} {q : NdA} (h : Clu W w os c dv nv qs xs ms) (hx : xs[k]? = some x) (hq : qs[k]? = some q) : ∃ f os', SepW W w (ndOs q f x os') := by
  obtain ⟨mv, L, M, B, h1, h2, h3, h4, h5⟩ := h
  rw [← h4] at hx
  rw [← h3] at hq
  unfold xOf at hx
  rw [List.getElem?_map] at hx hq
  obtain ⟨⟨q', f, x'⟩, hp, rfl⟩ := Option.map_eq_some_iff.1 hx
  rw [hp] at hq
  cases hq
  exact ⟨f, _, SepW.focus (pre := [_, _, _, _, _]) h1 hp⟩
/-- One node in sight, to turn: the rest, and the way back. -/
theorem Clu.focus {k : Nat} {x : Nd} {q : NdA} (h : Clu W w os c dv nv qs xs ms) (hx : xs[k]? = some x) (hq : qs[k]? = some q) : ∃ (f : NdF) (rest : List Ob), SepW W w (ndOs q f x (rest ++ os)) ∧
    (∀ (w' : World) (f' : NdF) (y : Nd) (fr : List Ob), SepW W w' (fr ++ ndOs q f' y (rest ++ os)) → Clu W w' (fr ++ os) c dv nv qs (xs.set k y) ms) := by
  obtain ⟨mv, L, M, B, h1, h2, h3, h4, h5⟩ := h
  rw [← h4] at hx
  rw [← h3] at hq
  unfold xOf at hx
  rw [List.getElem?_map] at hx hq
  obtain ⟨⟨q', f, x'⟩, hp, rfl⟩ := Option.map_eq_some_iff.1 hx
  rw [hp] at hq
  cases hq
  refine ⟨f, [obBlk c (.cells (clC L.length dv nv mv) 36), obSuf mv 44 13 M.length (mailC M), obRow nv 31 1 L.length (nodeV L), obRow dv 53 1 L.length (diskV L), obBod B] ++ ndsOs (L.eraseIdx k), by rw [List.append_assoc]; exact SepW.focus (pre := [_, _, _, _, _]) h1 hp, fun w' f' y fr hs => ?_⟩
  rw [List.append_assoc] at hs
  have hb := SepW.back (fr := fr) (pre := [_, _, _, _, _]) hp (p' := (q', f', y)) hs
  have hll : (L.set k (q', f', y)).length = L.length := List.length_set
  have hnv : nodeV (L.set k (q', f', y)) = nodeV L := map_set_same (fun p : Nq => Value.pointer (some ⟨p.1.x, 0, none⟩)) hp rfl
  have hdv : diskV (L.set k (q', f', y)) = diskV L := map_set_same (fun p : Nq => Value.pointer (some ⟨p.1.b0, 0, none⟩)) hp rfl
  refine ⟨mv, L.set k (q', f', y), M, B, ?_, h2, (map_set_same (p' := (q', f', y)) Prod.fst hp rfl).trans h3, by rw [← h4]; unfold xOf; rw [List.map_set], h5⟩
  refine SepW.perm ?_ (clOs_tail fr os)
  unfold clOs
  rw [hll, hnv, hdv]
  exact hb
theorem clu_tick {Mb k : Nat} {x : Nd} {q : NdA} (h : Clu W w os c dv nv qs xs ms) (hx : xs[k]? = some x) (hq : qs[k]? = some q) (hN : x.e = 0 → NdOk x Mb ∧ TkOk x) :
    Calls Tryz.prog 16 #[.pointer (some ⟨q.x, 0, none⟩)] w fun e w' => ∃ v y outs, e = .returned v ∧ TickR x y outs ∧ CluO W w' os c dv nv qs (xs.set k y) ms v outs := by
  obtain ⟨f, rest, h1, h2⟩ := h.focus hx hq
  refine (nd_tick (Mb := Mb) h1 hN).mono ?_
  rintro e w' ⟨y, outs, ht, v, l, f', rfl, hl, hs⟩
  exact ⟨v, y, outs, rfl, ht, l, hl, h2 w' f' y [_, _] hs⟩
theorem clu_prop {k : Nat} {x : Nd} {q : NdA} (h : Clu W w os c dv nv qs xs ms) (hx : xs[k]? = some x) (hq : qs[k]? = some q) {bv : Value} {bs : List Int} (hb : Held W os bv (u8s bs)) (ux : U8 bs) (lx : bs.length ≤ 3900) (hN : x.NL < 900000) (hps : x.ps.length ≤ 7) :
    Calls Tryz.prog 11 #[.pointer (some ⟨q.x, 0, none⟩), bv] w fun e w' => ∃ v y outs er, e = .returned (.tuple #[v, .int .i64 er]) ∧ PropR x bs y outs er ∧ CluO W w' os c dv nv qs (xs.set k y) ms v outs := by
  obtain ⟨f, rest, h1, h2⟩ := h.focus hx hq
  refine (nd_propose h1 (hb.more _) ux lx hN hps).mono ?_
  rintro e w' ⟨y, outs, er, hp, v, l, f', rfl, hl, hs⟩
  exact ⟨v, y, outs, er, rfl, hp, l, hl, h2 w' f' y [_, _] hs⟩
theorem clu_leads {k : Nat} {x : Nd} {q : NdA} (h : Clu W w os c dv nv qs xs ms) (hx : xs[k]? = some x) (hq : qs[k]? = some q) : Calls Tryz.prog 17 #[.pointer (some ⟨q.x, 0, none⟩)] w fun e w' => e = .returned (.bool (x.L.stage == 2)) ∧ w = w' := by
  obtain ⟨f, os', h1⟩ := h.sight hx hq
  exact nd_leads h1
theorem clu_next {k : Nat} {x : Nd} {q : NdA} (h : Clu W w os c dv nv qs xs ms) (hx : xs[k]? = some x) (hq : qs[k]? = some q) : Calls Tryz.prog 14 #[.pointer (some ⟨q.x, 0, none⟩)] w fun e w' => e = .returned (.int .u64 x.next) ∧ w = w' := by
  obtain ⟨f, os', h1⟩ := h.sight hx hq
  exact nd_next h1
theorem clu_value {k : Nat} {x : Nd} {q : NdA} (h : Clu W w os c dv nv qs xs ms) (hx : xs[k]? = some x) (hq : qs[k]? = some q) {s : Int} (us : U1 s) : Calls Tryz.prog 15 #[.pointer (some ⟨q.x, 0, none⟩), .int .u64 s] w fun e w' =>
    ∃ v, e = .returned (.tuple #[v, .bool (x.kn s).isSome]) ∧ SlR w' v (u8s ((x.kn s).getD [])) ∧ Clu W w' os c dv nv qs xs ms ∧ Below w.heap.size w w' := by
  obtain ⟨f, os', h1⟩ := h.sight hx hq
  refine (nd_value h1 us).mono ?_
  rintro e w' ⟨v, rfl, hs, hb⟩
  exact ⟨v, rfl, hs.row 0 rfl, h.step hb, hb⟩
/-- Something is made beside a cluster. -/
theorem Clu.new {o : Ob} (h : Clu W w os c dv nv qs xs ms) (hb : Below w.heap.size w w') (g : o.Good) (hi : o.inv w') (hf : ∀ k, o.foot k → w.heap.size ≤ k) : Clu W w' (o :: os) c dv nv qs xs ms := by
  obtain ⟨mv, L, M, B, h1, h2⟩ := h
  exact ⟨mv, L, M, B, (h1.new hb g hi hf).perm (clOs_tail [o] os), h2⟩
theorem Clu.newBlk (h : Clu W w os c dv nv qs xs ms) (cs : Array Value) (t : TypeId) : Clu W (w.alloc (.cells cs t)) (obBlk w.heap.size (.cells cs t) :: os) c dv nv qs xs ms :=
  h.new (below_lit w _) (obBlk_good ..) (heap_alloc_new w _) (fun k hk => by rw [show k = w.heap.size from hk]; exact Nat.le_refl _)
/-- Outs go. -/
theorem clu_send {v : Value} {outs : List Om} (h : CluO W w os c dv nv qs xs ms v outs) (hm : ms.length ≤ 400) (s : Int) :
    Calls Tryz.prog 12 #[.pointer (some ⟨c, 0, none⟩), .int .i64 s, v] w fun e w' => e = .returned (.tuple #[]) ∧ Clu W w' os c dv nv qs xs (sendO s outs ms) := by
  obtain ⟨l, hl, mv, L, M, B, h1, h2, h3, h4, h5⟩ := h
  have h6 := h1.perm (clOs_tail [_, _] os).symm
  have hf : ∀ p ∈ l, ∃ bo bc, p.2 = .slice bo p.1.body.length bc := fun p hp => bod_form (h6.get 1 rfl : (obBod _).inv w) (List.mem_map.2 ⟨p, hp, rfl⟩)
  have hq1 := h6.pull 3 rfl
  have hq2 := hq1.pull 3 rfl
  refine (cl_send (c := c) (n := (L.length : Int)) (s := s) (dv := dv) (nv := nv) (mv := mv) (v := v) (M := M) (l := l) (ovs := []) hq2 hf (by rw [← h5] at hm; unfold mOf at hm; rwa [List.length_map] at hm)).mono ?_
  rintro e w' ⟨rfl, mv', hs⟩
  have a2 := SepW.dropB (pre := [_, _]) (l := [_]) hs
  have a3 := a2.pull 5 rfl
  have a4 := a3.pull 3 rfl
  have a5 := SepW.bodApp (l := l.map fun p => (p.2, p.1.body)) (m := B) a4
  have a6 := SepW.mid (pre := [_, _, _, _]) a5
  refine ⟨rfl, mv', L, sendM s l M, (l.map fun p => (p.2, p.1.body)) ++ B, a6, ?_, h3, h4, by rw [mOf_send, hl, h5]⟩
  intro p hp
  rcases List.mem_append.1 hp with hp | hp
  · exact List.mem_append_right _ (h2 p hp)
  · obtain ⟨r', hr', rfl⟩ := List.mem_map.1 hp
    exact List.mem_append_left _ (List.mem_map.2 ⟨r', List.mem_of_mem_take hr', rfl⟩)
/-- The first message is given up: 'c.l = c.l[1:]'. -/
theorem mailC_drop1 (M : List (Int × Om × Value)) : (mailC M).drop (1 * 13) = mailC (M.drop 1) := by
  cases M with
  | nil => rfl
  | cons p r => exact mailC_drop (p :: r) (k := 1) (by simp)
theorem Clu.lose (h : Clu W w os c dv nv qs xs ms) (hne : ms ≠ []) : ∃ g o mc, w.cell? ⟨c, 3, none⟩ = some (.slice (some ⟨g, o, none⟩) ms.length mc) ∧ ms.length ≤ mc ∧ mc ≤ 9223372036854775807 ∧ w.frozen? ⟨c, 3, none⟩ = false ∧
    (∀ s t b : Int, ∀ o', ms[0]? = some o' → w.cell? ⟨g, o + 1, none⟩ = some (.int .i64 o'.2.dst)) ∧
    Clu W (w.setCell ⟨c, 3, none⟩ (.slice (if mc = 1 then some ⟨g, o, none⟩ else some ⟨g, o + 13, none⟩) (ms.length - 1) (mc - 1))) os c dv nv qs xs (ms.drop 1) := by
  obtain ⟨mv, L, M, B, h1, h2, h3, h4, h5⟩ := h
  have hml : M.length = ms.length := by rw [← h5]; unfold mOf; rw [List.length_map]
  have hpos : 0 < M.length := by rw [hml]; exact List.length_pos_iff.2 hne
  have hor := (h1.get 1 rfl : OwnsSuf w 44 13 mv M.length (mailC M))
  obtain ⟨g, o, mc, rfl, hm, hm2⟩ := hor.form1 hpos
  obtain ⟨-, -, -, c3, cf⟩ := h1.clCell 0 rfl
  refine ⟨g, o, mc, by rw [← hml]; exact c3, by omega, hm2, cf 3, ?_, ?_⟩
  · intro _ _ _ p hp
    rw [← h5] at hp
    unfold mOf at hp
    rw [List.getElem?_map] at hp
    obtain ⟨p', hp', rfl⟩ := Option.map_eq_some_iff.1 hp
    have h6 := mailC_at hp' 1 (by decide)
    rw [Nat.zero_mul, Nat.zero_add] at h6
    exact hor.cells h6
  · have hc := hor.cut (m := 1) (by omega) _ rfl
    rw [mailC_drop1] at hc
    have h7 := h1.set 1 rfl (Keep.refl _ _) (obSuf_good _ _ _ _ _) hc (fun k hk => Or.inl (by
      by_cases e : mc = 1
      · rw [if_pos e] at hk; exact hk
      · rw [if_neg e] at hk; exact hk))
    have h8 := h7.blkSet 0 rfl 3 (.slice (if mc = 1 then some ⟨g, o, none⟩ else some ⟨g, o + 1 * 13, none⟩) (M.length - 1) (mc - 1))
    rw [hml] at h8
    refine ⟨.slice (if mc = 1 then some ⟨g, o, none⟩ else some ⟨g, o + 13, none⟩) (ms.length - 1) (mc - 1), L, M.drop 1, B, ?_, fun p hp => h2 p (List.mem_of_mem_drop hp), h3, h4, by rw [← h5]; unfold mOf; rw [List.map_drop]⟩
    unfold clOs
    rw [show (M.drop 1).length = ms.length - 1 by rw [List.length_drop, hml]]
    exact h8
end
end Go.Proofs.YtgmdedkingampaaGreat
