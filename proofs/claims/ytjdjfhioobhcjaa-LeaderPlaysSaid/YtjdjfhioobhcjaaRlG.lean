/-
  The document's leader: Accepted, a vote that counts.
-/
import Derived.Test.YtjdjfhioobhcjaaRlF
namespace Go.Proofs.Ytjdjfhioobhcjaa
open Go.ChangeShapes Go.WideShapes Go.ChangeAt Go.RowKit Go.Maps Go.Shelf
set_option maxRecDepth 100000
set_option linter.unusedVariables false
set_option linter.unusedSimpArgs false

/-- The row of proposals grew by one. -/
theorem OC.grow {S : Nat → Prop} {w wr w1 w8 : World} {ov : Value} {vs : List Value} {os : List RO} {n' g cap : Nat} {o : RO} {sv : Value} {ob : Obj} (h : OC (Tw S w wr ov) wr vs os) (h1 : Below wr.heap.size wr w1) (hw : w.heap.size + 4 ≤ wr.heap.size) (hg : (w1.alloc ob).grownBy w8 ov.ownBlock) (hor : ov.ownBlock = some g ∨ g = w1.heap.size + 1) (hS : ∀ k, S k → k < w.heap.size) (hov : ∀ k, ov.ownBlock = some k → w.heap.size + 4 ≤ k)
    (hs : SlR w8 sv (i64s o.who)) (ho : ∀ k, sv.ownBlock = some k → S k ∨ (w.heap.size + 4 ≤ k ∧ k < w1.heap.size ∧ ov.ownBlock ≠ some k)) :
    OC (Tw S w w8 (.slice (some ⟨g, 0, none⟩) n' cap)) w8 (vs ++ [.int .u64 o.v.slot, .int .u64 o.v.ballot, .string (strB o.v.val), sv]) (os ++ [o]) := by
  have hk : Keep (fun k => ov.ownBlock = some k) w1 w8 := (Below.keep0 _ ((Below.refl _ _).alloc (Nat.le_refl _) ob)).trans (Keep.grown hg (fun k hk => hk))
  have h1z := h1.size
  have hz : w1.heap.size ≤ w8.heap.size := hk.size
  have hne : ∀ q, q < w1.heap.size → ov.ownBlock ≠ some q → (Value.slice (some ⟨g, 0, none⟩) n' cap).ownBlock ≠ some q := by
    intro q hq hn e
    have : g = q := by simpa [Value.ownBlock] using e
    subst this
    rcases hor with hh | hh
    · exact hn hh
    · omega
  refine ((h.keep ((Below.keep0 _ h1).trans hk) (fun q hq hT => ?_)).mono (fun q hq => ?_)).app (OC.single hs (fun q hq => ?_))
  · rcases hT with hT | ⟨_, _, hT⟩
    · have := hS q hT; have := hov q hq; omega
    · exact hT hq
  · rcases hq with hq | ⟨q1, q2, q3⟩
    · exact Or.inl hq
    · exact Or.inr ⟨q1, by omega, hne q (by omega) q3⟩
  · rcases ho q hq with hq | ⟨q1, q2, q3⟩
    · exact Or.inl hq
    · exact Or.inr ⟨q1, by omega, hne q q2 q3⟩
theorem OC.stay {S : Nat → Prop} {w wr w1 : World} {ov : Value} {vs : List Value} {os : List RO} {T : Nat → Prop} (h : OC (Tw S w wr ov) wr vs os) (hk : Keep T wr w1) (hT : ∀ k, T k → w.heap.size ≤ k ∧ (k < w.heap.size + 4 ∨ wr.heap.size ≤ k)) (hS : ∀ k, S k → k < w.heap.size) : OC (Tw S w w1 ov) w1 vs os := by
  refine (h.keep hk (fun q hq hh => ?_)).mono (fun q hq => ?_)
  · have h1 := hT q hq
    rcases hh with hh | ⟨q1, q2, q3⟩
    · have := hS q hh; omega
    · omega
  · rcases hq with hq | ⟨q1, q2, q3⟩
    · exact Or.inl hq
    · exact Or.inr ⟨q1, Nat.lt_of_lt_of_le q2 hk.size, q3⟩
theorem cells4 {W : World} {b : Nat} {x0 x1 x2 x3 : Value} {t : TypeId} {fr : Nat × Nat} (h : W.heap[b]? = some (.cells #[x0, x1, x2, x3] t fr)) :
    W.cell? ⟨b, 0, none⟩ = some x0 ∧ W.cell? ⟨b, 1, none⟩ = some x1 ∧ W.cell? ⟨b, 2, none⟩ = some x2 ∧ W.cell? ⟨b, 3, none⟩ = some x3 :=
  ⟨World.news_of_block h 0 _ rfl, World.news_of_block h 1 _ rfl, World.news_of_block h 2 _ rfl, World.news_of_block h 3 _ rfl⟩
theorem chC_form (c : Option Vt) : ∃ y0 y1 y2, chC c = #[y0, y1, y2] := by cases c <;> exact ⟨_, _, _, rfl⟩
theorem rvO_eq (c : Option Vt) : rvO c = .agg (chC c) := by cases c <;> rfl
/-- What the loop carries. -/
structure AcI (S : Nat → Prop) (w wr : World) (R : RL) (pv kv opv : Value) (ov : Value) (os : List RO) (c : Option Vt) : Prop where
  ex : ∃ vs, SepW w wr [obRow ov 124 4 os.length vs, obBlk (w.heap.size + 3) (.cells (chC c) 56), obBlk (w.heap.size + 2) (.cells #[.int .u64 0, .int .u64 0, .string ⟨#[]⟩] 56), obBlk (w.heap.size + 1) (.cells #[.int .i64 0, .int .i64 0, .int .u64 0, .int .u64 0, .int .u64 0, .slice none 0 0, .slice none 0 0, .slice none 0 0] 66), obBlk w.heap.size (.cells #[.int .i64 R.many, .int .i64 2, .int .u64 R.ballot, .int .u64 R.first, .int .u64 R.next, pv, kv, opv] 66)] ∧ OC (Tw S w wr ov) wr vs os
  hi : w.heap.size + 4 ≤ wr.heap.size
  own : ∀ k, ov.ownBlock = some k → w.heap.size + 4 ≤ k
set_option maxHeartbeats 8000000 in
theorem rlacc_ok {S : Nat → Prop} {w : World} {R : RL} {pv kv ov : Value} (h : RLs S w R pv kv ov) {node b s : Int} (hyes : R.stage = 2 ∧ b = R.ballot ∧ 0 ≤ node ∧ node < R.many) (hm : 1 ≤ R.many ∧ R.many ≤ 32) (hl : R.op.length ≤ 1000000) (hw : ∀ o ∈ R.op, o.who.length ≤ 1000) : Calls Try.prog 40 #[rlV R pv kv ov, .int .i64 node, .int .u64 b, .int .u64 s] w fun e w' =>
    ∃ ov', e = .returned (.tuple #[rlV (rAcc R node s) pv kv ov', rvO (chF R.many node s R.op), .bool (chF R.many node s R.op).isSome]) ∧ RLs (New S w w') w' (rAcc R node s) pv kv ov' ∧ Below w.heap.size w w' := by
  obtain ⟨po, pc, ko, kc, oo, oc, rfl, rfl, rfl, a1, a2, b1, b2, c1, c2⟩ := h.forms
  have H := Lib.hid h
  unfold rlV
  obtain ⟨many, stage, ballot, first, next, prom, kn, op⟩ := R
  simp only at *
  clear h
  obtain ⟨q1, rfl, q3, q4⟩ := hyes
  subst q1
  have d1 : ((2 : Int) != 2) = false := by decide
  have d2 : (b != b) = false := by simp
  have d3 : decide (node < 0) = false := decide_eq_false (by omega)
  have d4 : decide (many ≤ node) = false := decide_eq_false (by omega)
  have hS := H.out.lt
  have HS := Lib.hid hS
  have HWh := Lib.hid hw
  clear hS hw
  obtain ⟨i0, hi, hz0, hz1, hz2⟩ := info_parts Try.roInfo
  obtain ⟨j0, hj, hy0, hy1, hy2⟩ := info_parts Try.intInfo
  go_enter Try.func40, Try.ntmps40
  go_wp2_with fail
  have hsz : (((w.alloc (.cells #[.int .i64 many, .int .i64 2, .int .u64 b, .int .u64 first, .int .u64 next, .slice po prom.length pc, .slice ko kn.length kc, .slice oo op.length oc] 66)).alloc (.cells #[.int .i64 0, .int .i64 0, .int .u64 0, .int .u64 0, .int .u64 0, .slice none 0 0, .slice none 0 0, .slice none 0 0] 66)).alloc (.cells #[.int .u64 0, .int .u64 0, .string ⟨#[]⟩] 56)).heap.size = w.heap.size + 3 := by simp
  have hsz2 : ((w.alloc (.cells #[.int .i64 many, .int .i64 2, .int .u64 b, .int .u64 first, .int .u64 next, .slice po prom.length pc, .slice ko kn.length kc, .slice oo op.length oc] 66)).alloc (.cells #[.int .i64 0, .int .i64 0, .int .u64 0, .int .u64 0, .int .u64 0, .slice none 0 0, .slice none 0 0, .slice none 0 0] 66)).heap.size = w.heap.size + 2 := by simp
  have hsz1 : (w.alloc (.cells #[.int .i64 many, .int .i64 2, .int .u64 b, .int .u64 first, .int .u64 next, .slice po prom.length pc, .slice ko kn.length kc, .slice oo op.length oc] 66)).heap.size = w.heap.size + 1 := by simp
  have hsz4 : ((((w.alloc (.cells #[.int .i64 many, .int .i64 2, .int .u64 b, .int .u64 first, .int .u64 next, .slice po prom.length pc, .slice ko kn.length kc, .slice oo op.length oc] 66)).alloc (.cells #[.int .i64 0, .int .i64 0, .int .u64 0, .int .u64 0, .int .u64 0, .slice none 0 0, .slice none 0 0, .slice none 0 0] 66)).alloc (.cells #[.int .u64 0, .int .u64 0, .string ⟨#[]⟩] 56)).alloc (.cells #[.int .u64 0, .int .u64 0, .string ⟨#[]⟩] 56)).heap.size = w.heap.size + 4 := by simp
  have hsW := ((((SepW.nil (Below.refl _ w)).newBlk #[.int .i64 many, .int .i64 2, .int .u64 b, .int .u64 first, .int .u64 next, .slice po prom.length pc, .slice ko kn.length kc, .slice oo op.length oc] 66).newBlk #[.int .i64 0, .int .i64 0, .int .u64 0, .int .u64 0, .int .u64 0, .slice none 0 0, .slice none 0 0, .slice none 0 0] 66).newBlk #[.int .u64 0, .int .u64 0, .string ⟨#[]⟩] 56).newBlk #[.int .u64 0, .int .u64 0, .string ⟨#[]⟩] 56
  rw [hsz, hsz2, hsz1] at hsW
  generalize (((w.alloc (.cells #[.int .i64 many, .int .i64 2, .int .u64 b, .int .u64 first, .int .u64 next, .slice po prom.length pc, .slice ko kn.length kc, .slice oo op.length oc] 66)).alloc (.cells #[.int .i64 0, .int .i64 0, .int .u64 0, .int .u64 0, .int .u64 0, .slice none 0 0, .slice none 0 0, .slice none 0 0] 66)).alloc (.cells #[.int .u64 0, .int .u64 0, .string ⟨#[]⟩] 56)).alloc (.cells #[.int .u64 0, .int .u64 0, .string ⟨#[]⟩] 56) = w4 at *
  have hsW2 : SepW w w4 [obRow (.slice none 0 0) 124 4 0 [], _, _, _, _] := hsW.newRow (World.ownsRow_nil _ _ _ _) (Below.refl _ _)
  have HI : Hid (AcI S w w4 ⟨many, 2, b, first, next, prom, kn, op⟩ (.slice po prom.length pc) (.slice ko kn.length kc) (.slice oo op.length oc) (.slice none 0 0) [] none) := Lib.hid ⟨⟨[], hsW2, OC.nil _ _⟩, by omega, by intro k hk; cases hk⟩
  clear hsW hsW2 hsz hsz1 hsz2 hsz4
  go_loopw [14, 11, 13] (fun i ov cv wr => ∃ (k : Nat) (o : Option Addr) (c : Nat), k ≤ op.length ∧ i = .int .i64 k ∧ ov = .slice o ((op.take k).filterMap (rVote many node s)).length c ∧ cv = .bool (chF many node s (op.take k)).isSome ∧ AcI S w wr ⟨many, 2, b, first, next, prom, kn, op⟩ (.slice po prom.length pc) (.slice ko kn.length kc) (.slice oo op.length oc) (.slice o ((op.take k).filterMap (rVote many node s)).length c) ((op.take k).filterMap (rVote many node s)) (chF many node s (op.take k))) (fun i _ _ _ => op.length - (intOf i).toNat)
  case atStart => exact ⟨0, none, 0, by omega, rfl, rfl, rfl, HI.out⟩
  case round =>
    obtain ⟨k, o0, oc0, hk, rfl, rfl, rfl, hI⟩ := hrel
    have HI := Lib.hid hI
    clear hI
    have hml := fm_len (rVote many node s) op k
    obtain ⟨vs, hsp, hoc⟩ := HI.out.ex
    obtain ⟨y0, y1, y2, hy⟩ := chC_form (chF many node s (op.take k))
    rw [hy] at hsp
    have HY := Lib.hid hy
    clear hy
    have HSp := Lib.hid hsp
    have HOc := Lib.hid hoc
    obtain ⟨e0, e1, e2, e3, e4, e5, e6, e7⟩ := cells8 (hsp.get 4 rfl : wr.heap[w.heap.size]? = some (.cells #[.int .i64 many, .int .i64 2, .int .u64 b, .int .u64 first, .int .u64 next, .slice po prom.length pc, .slice ko kn.length kc, .slice oo op.length oc] 66))
    clear hsp hoc
    by_cases hlt : k < op.length
    · have hki : (k : Int) < (op.length : Int) := by omega
      have hx := List.getElem?_eq_getElem hlt
      obtain ⟨a, so, sc, hoo, x0, x1, x2, x3, xs, xo, xl1, xl2⟩ := (H.out.o.keep (Below.keep0 (fun _ => False) HSp.out.below) (fun _ hf => hf.elim)).at k _ hx
      rw [hoo] at e7
      clear hoo
      have HFm := Lib.hid (fm_succ (f := rVote many node s) hx)
      have HCh := Lib.hid (chF_succ (many := many) (node := node) (slot := s) hx)
      have hwl := HWh.out _ (List.getElem_mem hlt)
      generalize op[k] = q at *
      obtain ⟨⟨qs, qb, qv⟩, qw⟩ := q
      try simp only at x0 x1 x2 x3 xs xo xl1 xl2 hwl
      have HXs := Lib.hid xs
      have HXo := Lib.hid xo
      clear hx xs xo
      generalize hos : (op.take k).filterMap (rVote many node s) = os at *
      generalize hch : chF many node s (op.take k) = c at *
      clear hos hch
      have HA1 := Lib.hid ((Below.refl wr.heap.size wr).alloc (Nat.le_refl _) (.cells #[.int .u64 qs, .int .u64 qb, .string (strB qv), .slice so qw.length sc] 124))
      have HSpX : Hid (SepW w (wr.alloc (.cells #[.int .u64 qs, .int .u64 qb, .string (strB qv), .slice so qw.length sc] 124)) [obBlk wr.heap.size (.cells #[.int .u64 qs, .int .u64 qb, .string (strB qv), .slice so qw.length sc] 124), obRow (.slice o0 os.length oc0) 124 4 os.length vs, obBlk (w.heap.size + 3) (.cells #[y0, y1, y2] 56), obBlk (w.heap.size + 2) (.cells #[.int .u64 0, .int .u64 0, .string ⟨#[]⟩] 56), obBlk (w.heap.size + 1) (.cells #[.int .i64 0, .int .i64 0, .int .u64 0, .int .u64 0, .int .u64 0, .slice none 0 0, .slice none 0 0, .slice none 0 0] 66), obBlk w.heap.size (.cells #[.int .i64 many, .int .i64 2, .int .u64 b, .int .u64 first, .int .u64 next, .slice po prom.length pc, .slice ko kn.length kc, .slice oo op.length oc] 66)]) := Lib.hid (HSp.out.newBlk #[.int .u64 qs, .int .u64 qb, .string (strB qv), .slice so qw.length sc] 124)
      by_cases hqs : qs = s
      · subst hqs
        have dq : (qs != qs) = false := by simp
        have hV := rVote_yes (many := many) (node := node) (slot := qs) (o := ⟨⟨qs, qb, qv⟩, qw⟩) rfl
        simp only at hV
        have HV := Lib.hid hV
        have hCs : chS many node qs c ⟨⟨qs, qb, qv⟩, qw⟩ = if many / 2 < ((whoA node qw).length : Int) then some ⟨qs, qb, qv⟩ else c := by unfold chS; simp
        have HCs := Lib.hid hCs
        have htd : many.tdiv 2 = many / 2 := Int.tdiv_eq_ediv_of_nonneg (by omega)
        have hw1 : ∀ u ∈ i64s qw, u.oneCell' = true := by intro u hu; unfold i64s at hu; obtain ⟨x, _, rfl⟩ := List.mem_map.1 hu; rfl
        have HW1 := Lib.hid hw1
        have hql : (i64s qw).length = qw.length := by simp [i64s]
        have HQl := Lib.hid hql
        clear hV hCs hw1 hql
        go_wp2_with (first
          | (at_builtin; (refine wpList_appSrc rfl (.tmp 60) (.tmp 62) 42 rfl (wr.alloc (.cells #[.int .u64 qs, .int .u64 qb, .string (strB qv), .slice so qw.length sc] 124)).heap.size 3 j0 _ 8 Try.underlying42 hj hy0 hy1 hy2 rfl (by decide) rfl rfl (World.ownsRow_nil _ _ _ _) (HXs.out.below HA1.out (Nat.le_refl _)) HW1.out (by rw [HQl.out]; omega) (Nat.le_refl _) ?_)
             intro v5 w5 hown5 hb5 hor5 hk5 hne5
             (rw [HQl.out, Nat.zero_add, List.nil_append] at hown5)
             obtain ⟨o5, c5, rfl, hc51, hc52⟩ := own_form hown5
             have HO5 := Lib.hid hown5
             have HB5 := Lib.hid hb5
             clear hown5 hb5 hor5 hk5 hne5)
          | fail)
        have HS5 : Hid (SepW w w5 [obRow (.slice o5 qw.length c5) 3 1 qw.length (i64s qw), obBlk wr.heap.size (.cells #[.int .u64 qs, .int .u64 qb, .string (strB qv), .slice so qw.length sc] 124), obRow (.slice o0 os.length oc0) 124 4 os.length vs, obBlk (w.heap.size + 3) (.cells #[y0, y1, y2] 56), obBlk (w.heap.size + 2) (.cells #[.int .u64 0, .int .u64 0, .string ⟨#[]⟩] 56), obBlk (w.heap.size + 1) (.cells #[.int .i64 0, .int .i64 0, .int .u64 0, .int .u64 0, .int .u64 0, .slice none 0 0, .slice none 0 0, .slice none 0 0] 66), obBlk w.heap.size (.cells #[.int .i64 many, .int .i64 2, .int .u64 b, .int .u64 first, .int .u64 next, .slice po prom.length pc, .slice ko kn.length kc, .slice oo op.length oc] 66)]) := Lib.hid (HSpX.out.newRow HO5.out HB5.out)
        obtain ⟨e0, _, _, _, _, _, _, _⟩ := cells8 (HS5.out.get 6 rfl : w5.heap[w.heap.size]? = some (.cells #[.int .i64 many, .int .i64 2, .int .u64 b, .int .u64 first, .int .u64 next, .slice po prom.length pc, .slice ko kn.length kc, .slice oo op.length oc] 66))
        have HB15 := Lib.hid (HA1.out.trans (HB5.out.mono HA1.out.size))
        refine (rin_any node (HS5.out.row 0 rfl)).mono ?_
        rintro e w6 ⟨rfl, rfl⟩
        have hlo5 : ∀ k', (Value.slice o5 qw.length c5).ownBlock = some k' → wr.heap.size ≤ k' := fun k' hk' => Nat.le_trans HA1.out.size (HO5.out.lt k' hk').1
        have HLo5 := Lib.hid hlo5
        clear hlo5
        by_cases hin : node ∈ qw
        rotate_left
        · have hdn : decide (node ∈ qw) = false := decide_eq_false hin
          have hwho : whoA node qw = qw ++ [node] := by unfold whoA; rw [if_neg hin]
          rw [hwho] at HV HCs
          rw [hdn]
          clear hwho hin hdn
          by_cases hmaj : many / 2 < ((qw ++ [node]).length : Int)
          · have hmd : many / 2 < ((qw.length : Int) + 1) := by simpa using hmaj
            have HMaj := Lib.hid hmaj
            clear hmaj
            go_wp2_with (first
              | (at_builtin; (refine wpList_appS rfl (.tmp 68) (.tmp 70) 42 rfl 0 3 j0 _ 1 8 Try.underlying42 hj hy0 hy1 hy2 rfl (by decide) (by decide) rfl rfl rfl rfl (HS5.out.get 0 rfl) (by intro u hu; simp at hu; subst hu; rfl) (by omega) (Nat.zero_le _) ?_)
                 intro g6 cap6 w6 hown6 hg6 hor6
                 have HO6 := Lib.hid hown6
                 have HG6 := Lib.hid hg6
                 have HOr6 := Lib.hid hor6
                 (have HS6 : Hid (SepW w w6 [obRow (.slice (some ⟨g6, 0, none⟩) (qw.length + 1) cap6) 3 1 (qw.length + 1) (i64s qw ++ [.int .i64 node]), obBlk wr.heap.size (.cells #[.int .u64 qs, .int .u64 qb, .string (strB qv), .slice so qw.length sc] 124), obRow (.slice o0 os.length oc0) 124 4 os.length vs, obBlk (w.heap.size + 3) (.cells #[y0, y1, y2] 56), obBlk (w.heap.size + 2) (.cells #[.int .u64 0, .int .u64 0, .string ⟨#[]⟩] 56), obBlk (w.heap.size + 1) (.cells #[.int .i64 0, .int .i64 0, .int .u64 0, .int .u64 0, .int .u64 0, .slice none 0 0, .slice none 0 0, .slice none 0 0] 66), obBlk w.heap.size (.cells #[.int .i64 many, .int .i64 2, .int .u64 b, .int .u64 first, .int .u64 next, .slice po prom.length pc, .slice ko kn.length kc, .slice oo op.length oc] 66)]) := Lib.hid (HS5.out.rowApp 0 rfl hg6 hor6 hown6))
                 (obtain ⟨e0, _, _, _, _, _, _, _⟩ := cells8 (HS6.out.get 6 rfl : w6.heap[w.heap.size]? = some (.cells #[.int .i64 many, .int .i64 2, .int .u64 b, .int .u64 first, .int .u64 next, .slice po prom.length pc, .slice ko kn.length kc, .slice oo op.length oc] 66)))
                 (obtain ⟨u0, u1, u2, _⟩ := cells4 (HS6.out.get 1 rfl : w6.heap[wr.heap.size]? = some (.cells #[.int .u64 qs, .int .u64 qb, .string (strB qv), .slice so qw.length sc] 124)))
                 (obtain ⟨n0, n1, n2⟩ := cells3 (HS6.out.get 3 rfl : w6.heap[w.heap.size + 3]? = some (.cells #[y0, y1, y2] 56)))
                 (have nz : ∀ j, w6.frozen? ⟨w.heap.size + 3, j, none⟩ = false := fun j => by have hh : w6.heap[w.heap.size + 3]? = _ := HS6.out.get 3 rfl; simp [World.frozen?, hh])
                 clear hown6 hg6 hor6)
              | fail)
            have hkA : Keep (fun q => (Value.slice o5 qw.length c5).ownBlock = some q) w5 w6 := (Below.keep0 _ ((Below.refl _ _).alloc (Nat.le_refl _) _)).trans (Keep.grown HG6.out (fun k hk => hk))
            have HBN := Lib.hid (HB15.out.trans (hkA.below HB15.out.size (fun k' hk' => HLo5.out k' hk')))
            have HKN : Hid (∀ T : Nat → Prop, (∀ q, wr.heap.size ≤ q → T q) → Keep T wr w6) := Lib.hid (fun T hT => (Below.keep0 _ HB15.out).trans (hkA.mono (fun q _ hq => hT q (HLo5.out q hq))))
            have HLoN : Hid (∀ k', (Value.slice (some ⟨g6, 0, none⟩) (qw.length + 1) cap6).ownBlock = some k' → wr.heap.size ≤ k' ∧ k' < w6.heap.size) := Lib.hid (fun k' hk' => ⟨by
              have e1 : g6 = k' := by simpa [Value.ownBlock] using hk'
              subst e1
              rcases HOr6.out with hh | hh
              · exact HLo5.out _ hh
              · have := HB15.out.size; omega, (HO6.out.lt k' hk').2⟩)
            clear hkA
            have hs7 := HS6.out.blkSet3 3 rfl (.int .u64 qs) (.int .u64 qb) (.string (strB qv))
            have hs7' := hs7.sub (l := [obRow (.slice o0 os.length oc0) 124 4 os.length vs, obBlk (w.heap.size + 3) (.cells #[.int .u64 qs, .int .u64 qb, .string (strB qv)] 56), obBlk (w.heap.size + 2) (.cells #[.int .u64 0, .int .u64 0, .string ⟨#[]⟩] 56), obBlk (w.heap.size + 1) (.cells #[.int .i64 0, .int .i64 0, .int .u64 0, .int .u64 0, .int .u64 0, .slice none 0 0, .slice none 0 0, .slice none 0 0] 66), obBlk w.heap.size (.cells #[.int .i64 many, .int .i64 2, .int .u64 b, .int .u64 first, .int .u64 next, .slice po prom.length pc, .slice ko kn.length kc, .slice oo op.length oc] 66)]) ((List.sublist_cons_self _ _).trans (List.sublist_cons_self _ _))
            have hk7 := (((HKN.out (fun q => q = w.heap.size + 3 ∨ wr.heap.size ≤ q) (fun q hq => Or.inr hq)).setCell (p := ⟨w.heap.size + 3, 0, none⟩) (Or.inl (Or.inl rfl)) (.int .u64 qs)).setCell (p := ⟨w.heap.size + 3, 1, none⟩) (Or.inl (Or.inl rfl)) (.int .u64 qb)).setCell (p := ⟨w.heap.size + 3, 2, none⟩) (Or.inl (Or.inl rfl)) (.string (strB qv))
            generalize ((w6.setCell ⟨w.heap.size + 3, 0, none⟩ (.int .u64 qs)).setCell ⟨w.heap.size + 3, 1, none⟩ (.int .u64 qb)).setCell ⟨w.heap.size + 3, 2, none⟩ (.string (strB qv)) = w7 at *
            have hI7 : AcI S w w7 ⟨many, 2, b, first, next, prom, kn, op⟩ (.slice po prom.length pc) (.slice ko kn.length kc) (.slice oo op.length oc) (.slice o0 os.length oc0) os (some ⟨qs, qb, qv⟩) :=
              ⟨⟨vs, hs7', HOc.out.stay hk7 (fun q hq => by have := HI.out.hi; rcases hq with hq | hq <;> omega) HS.out⟩, Nat.le_trans HI.out.hi hk7.size, HI.out.own⟩
            have HI7 := Lib.hid hI7
            clear hs7 hs7' hk7 hI7
            go_roundw
            case rel => exact ⟨k + 1, _, _, by omega, by go_num, by rw [HFm.out, HV.out, if_pos HMaj.out, List.append_nil], by rw [HCh.out, HCs.out, if_pos HMaj.out]; rfl, by rw [HFm.out, HV.out, HCh.out, HCs.out, if_pos HMaj.out, if_pos HMaj.out, List.append_nil]; exact HI7.out⟩
            case measure => simp [intOf]; omega
          · have hmd : decide (many / 2 < ((qw.length : Int) + 1)) = false := decide_eq_false (by simp at hmaj; omega)
            have HMaj := Lib.hid hmaj
            clear hmaj
            go_wp2_with (first
              | (at_builtin; (refine wpList_appS rfl (.tmp 68) (.tmp 70) 42 rfl 0 3 j0 _ 1 8 Try.underlying42 hj hy0 hy1 hy2 rfl (by decide) (by decide) rfl rfl rfl rfl (HS5.out.get 0 rfl) (by intro u hu; simp at hu; subst hu; rfl) (by omega) (Nat.zero_le _) ?_)
                 intro g6 cap6 w6 hown6 hg6 hor6
                 have HO6 := Lib.hid hown6
                 have HG6 := Lib.hid hg6
                 have HOr6 := Lib.hid hor6
                 (have HS6 : Hid (SepW w w6 [obRow (.slice (some ⟨g6, 0, none⟩) (qw.length + 1) cap6) 3 1 (qw.length + 1) (i64s qw ++ [.int .i64 node]), obBlk wr.heap.size (.cells #[.int .u64 qs, .int .u64 qb, .string (strB qv), .slice so qw.length sc] 124), obRow (.slice o0 os.length oc0) 124 4 os.length vs, obBlk (w.heap.size + 3) (.cells #[y0, y1, y2] 56), obBlk (w.heap.size + 2) (.cells #[.int .u64 0, .int .u64 0, .string ⟨#[]⟩] 56), obBlk (w.heap.size + 1) (.cells #[.int .i64 0, .int .i64 0, .int .u64 0, .int .u64 0, .int .u64 0, .slice none 0 0, .slice none 0 0, .slice none 0 0] 66), obBlk w.heap.size (.cells #[.int .i64 many, .int .i64 2, .int .u64 b, .int .u64 first, .int .u64 next, .slice po prom.length pc, .slice ko kn.length kc, .slice oo op.length oc] 66)]) := Lib.hid (HS5.out.rowApp 0 rfl hg6 hor6 hown6))
                 (obtain ⟨e0, _, _, _, _, _, _, _⟩ := cells8 (HS6.out.get 6 rfl : w6.heap[w.heap.size]? = some (.cells #[.int .i64 many, .int .i64 2, .int .u64 b, .int .u64 first, .int .u64 next, .slice po prom.length pc, .slice ko kn.length kc, .slice oo op.length oc] 66)))
                 (obtain ⟨u0, u1, u2, _⟩ := cells4 (HS6.out.get 1 rfl : w6.heap[wr.heap.size]? = some (.cells #[.int .u64 qs, .int .u64 qb, .string (strB qv), .slice so qw.length sc] 124)))
                 (obtain ⟨n0, n1, n2⟩ := cells3 (HS6.out.get 3 rfl : w6.heap[w.heap.size + 3]? = some (.cells #[y0, y1, y2] 56)))
                 (have nz : ∀ j, w6.frozen? ⟨w.heap.size + 3, j, none⟩ = false := fun j => by have hh : w6.heap[w.heap.size + 3]? = _ := HS6.out.get 3 rfl; simp [World.frozen?, hh])
                 clear hown6 hg6 hor6)
              | (at_builtin; (refine wpList_appS rfl (.tmp 80) (.tmp 85) 64 rfl 0 124 i0 _ 4 56 Try.underlying64 hi hz0 hz1 hz2 rfl (by decide) (by decide) rfl rfl rfl rfl (HS6.out.get 2 rfl) (by intro u hu; simp at hu; rcases hu with rfl | rfl | rfl | rfl <;> rfl) (by omega) (Nat.zero_le _) ?_)
                 intro g8 cap8 w8 hown8 hg8 hor8
                 have HO8 := Lib.hid hown8
                 have HG8 := Lib.hid hg8
                 have HOr8 := Lib.hid hor8
                 clear hown8 hg8 hor8)
              | fail)
            have hkA : Keep (fun q => (Value.slice o5 qw.length c5).ownBlock = some q) w5 w6 := (Below.keep0 _ ((Below.refl _ _).alloc (Nat.le_refl _) _)).trans (Keep.grown HG6.out (fun k hk => hk))
            have HBN := Lib.hid (HB15.out.trans (hkA.below HB15.out.size (fun k' hk' => HLo5.out k' hk')))
            have HKN : Hid (∀ T : Nat → Prop, (∀ q, wr.heap.size ≤ q → T q) → Keep T wr w6) := Lib.hid (fun T hT => (Below.keep0 _ HB15.out).trans (hkA.mono (fun q _ hq => hT q (HLo5.out q hq))))
            have HLoN : Hid (∀ k', (Value.slice (some ⟨g6, 0, none⟩) (qw.length + 1) cap6).ownBlock = some k' → wr.heap.size ≤ k' ∧ k' < w6.heap.size) := Lib.hid (fun k' hk' => ⟨by
              have e1 : g6 = k' := by simpa [Value.ownBlock] using hk'
              subst e1
              rcases HOr6.out with hh | hh
              · exact HLo5.out _ hh
              · have := HB15.out.size; omega, (HO6.out.lt k' hk').2⟩)
            clear hkA
            have hs8 := HS6.out.rowApp 2 rfl HG8.out HOr8.out HO8.out
            have hs8' := hs8.sub (l := [obRow (.slice (some ⟨g8, 0, none⟩) (os.length + 1) cap8) 124 4 (os.length + 1) (vs ++ [.int .u64 qs, .int .u64 qb, .string (strB qv), .slice (some ⟨g6, 0, none⟩) (qw.length + 1) cap6]), obBlk (w.heap.size + 3) (.cells #[y0, y1, y2] 56), obBlk (w.heap.size + 2) (.cells #[.int .u64 0, .int .u64 0, .string ⟨#[]⟩] 56), obBlk (w.heap.size + 1) (.cells #[.int .i64 0, .int .i64 0, .int .u64 0, .int .u64 0, .int .u64 0, .slice none 0 0, .slice none 0 0, .slice none 0 0] 66), obBlk w.heap.size (.cells #[.int .i64 many, .int .i64 2, .int .u64 b, .int .u64 first, .int .u64 next, .slice po prom.length pc, .slice ko kn.length kc, .slice oo op.length oc] 66)]) ((List.sublist_cons_self _ _).trans (List.sublist_cons_self _ _))
            have hwr : SlR w8 (.slice (some ⟨g6, 0, none⟩) (qw.length + 1) cap6) (i64s (qw ++ [node])) := by have := hs8.row 0 rfl; simpa [i64s] using this
            have hg := HOc.out.grow (o := ⟨⟨qs, qb, qv⟩, (qw ++ [node])⟩) (sv := .slice (some ⟨g6, 0, none⟩) (qw.length + 1) cap6) (n' := os.length + 1) (cap := cap8) HBN.out HI.out.hi HG8.out HOr8.out HS.out HI.out.own hwr (fun k' hk' => Or.inr ⟨Nat.le_trans HI.out.hi (HLoN.out k' hk').1, (HLoN.out k' hk').2, fun hh => by have h1 := (HLoN.out k' hk').1; have h2 := ((HSp.out.get 0 rfl : wr.ownsRow 0 124 4 (.slice o0 os.length oc0) os.length vs).lt k' hh).2; omega⟩)
            have hI8 : AcI S w w8 ⟨many, 2, b, first, next, prom, kn, op⟩ (.slice po prom.length pc) (.slice ko kn.length kc) (.slice oo op.length oc) (.slice (some ⟨g8, 0, none⟩) (os.length + 1) cap8) (os ++ [⟨⟨qs, qb, qv⟩, (qw ++ [node])⟩]) c := by
              refine ⟨⟨vs ++ [.int .u64 qs, .int .u64 qb, .string (strB qv), .slice (some ⟨g6, 0, none⟩) (qw.length + 1) cap6], ?_, hg⟩, Nat.le_trans HI.out.hi (Nat.le_trans HBN.out.size (Nat.le_trans (by simp) HG8.out.size)), fun k' hk' => ?_⟩
              · rw [List.length_append, HY.out]; exact hs8'
              · have : g8 = k' := by simpa [Value.ownBlock] using hk'
                subst this
                rcases HOr8.out with hh | hh
                · exact HI.out.own _ hh
                · have := HI.out.hi; have := HBN.out.size; omega
            have HI8 := Lib.hid hI8
            clear hs8 hs8' hwr hg hI8
            go_roundw
            case rel => exact ⟨k + 1, _, _, by omega, by go_num, by rw [HFm.out, HV.out, if_neg (show ¬ (many / 2 < ((qw ++ [node]).length : Int)) by have := HMaj.out; omega), List.length_append]; rfl, by rw [HCh.out, HCs.out, if_neg (show ¬ (many / 2 < ((qw ++ [node]).length : Int)) by have := HMaj.out; omega)], by rw [HFm.out, HV.out, HCh.out, HCs.out, if_neg (show ¬ (many / 2 < ((qw ++ [node]).length : Int)) by have := HMaj.out; omega), if_neg (show ¬ (many / 2 < ((qw ++ [node]).length : Int)) by have := HMaj.out; omega)]; show AcI S w w8 _ _ _ _ (.slice (some ⟨g8, 0, none⟩) (os ++ [_]).length cap8) (os ++ [_]) c; rw [List.length_append]; exact HI8.out⟩
            case measure => simp [intOf]; omega
        · have hdn : decide (node ∈ qw) = true := decide_eq_true hin
          have hwho : whoA node qw = qw := by unfold whoA; rw [if_pos hin]
          rw [hwho] at HV HCs
          rw [hdn]
          clear hwho hin hdn
          by_cases hmaj : many / 2 < (qw.length : Int)
          · (obtain ⟨u0, u1, u2, _⟩ := cells4 (HS5.out.get 1 rfl : w5.heap[wr.heap.size]? = some (.cells #[.int .u64 qs, .int .u64 qb, .string (strB qv), .slice so qw.length sc] 124)))
            (obtain ⟨n0, n1, n2⟩ := cells3 (HS5.out.get 3 rfl : w5.heap[w.heap.size + 3]? = some (.cells #[y0, y1, y2] 56)))
            (have nz : ∀ j, w5.frozen? ⟨w.heap.size + 3, j, none⟩ = false := fun j => by have hh : w5.heap[w.heap.size + 3]? = _ := HS5.out.get 3 rfl; simp [World.frozen?, hh])
            have hmd : many / 2 < (qw.length : Int) := by simpa using hmaj
            have HMaj := Lib.hid hmaj
            clear hmaj
            go_wp2_with fail
            have HBN := HB15
            have HKN : Hid (∀ T : Nat → Prop, (∀ q, wr.heap.size ≤ q → T q) → Keep T wr w5) := Lib.hid (fun T hT => Below.keep0 _ HB15.out)
            have HLoN : Hid (∀ k', (Value.slice o5 qw.length c5).ownBlock = some k' → wr.heap.size ≤ k' ∧ k' < w5.heap.size) := Lib.hid (fun k' hk' => ⟨HLo5.out k' hk', (HO5.out.lt k' hk').2⟩)
            have hs7 := HS5.out.blkSet3 3 rfl (.int .u64 qs) (.int .u64 qb) (.string (strB qv))
            have hs7' := hs7.sub (l := [obRow (.slice o0 os.length oc0) 124 4 os.length vs, obBlk (w.heap.size + 3) (.cells #[.int .u64 qs, .int .u64 qb, .string (strB qv)] 56), obBlk (w.heap.size + 2) (.cells #[.int .u64 0, .int .u64 0, .string ⟨#[]⟩] 56), obBlk (w.heap.size + 1) (.cells #[.int .i64 0, .int .i64 0, .int .u64 0, .int .u64 0, .int .u64 0, .slice none 0 0, .slice none 0 0, .slice none 0 0] 66), obBlk w.heap.size (.cells #[.int .i64 many, .int .i64 2, .int .u64 b, .int .u64 first, .int .u64 next, .slice po prom.length pc, .slice ko kn.length kc, .slice oo op.length oc] 66)]) ((List.sublist_cons_self _ _).trans (List.sublist_cons_self _ _))
            have hk7 := (((HKN.out (fun q => q = w.heap.size + 3 ∨ wr.heap.size ≤ q) (fun q hq => Or.inr hq)).setCell (p := ⟨w.heap.size + 3, 0, none⟩) (Or.inl (Or.inl rfl)) (.int .u64 qs)).setCell (p := ⟨w.heap.size + 3, 1, none⟩) (Or.inl (Or.inl rfl)) (.int .u64 qb)).setCell (p := ⟨w.heap.size + 3, 2, none⟩) (Or.inl (Or.inl rfl)) (.string (strB qv))
            generalize ((w5.setCell ⟨w.heap.size + 3, 0, none⟩ (.int .u64 qs)).setCell ⟨w.heap.size + 3, 1, none⟩ (.int .u64 qb)).setCell ⟨w.heap.size + 3, 2, none⟩ (.string (strB qv)) = w7 at *
            have hI7 : AcI S w w7 ⟨many, 2, b, first, next, prom, kn, op⟩ (.slice po prom.length pc) (.slice ko kn.length kc) (.slice oo op.length oc) (.slice o0 os.length oc0) os (some ⟨qs, qb, qv⟩) :=
              ⟨⟨vs, hs7', HOc.out.stay hk7 (fun q hq => by have := HI.out.hi; rcases hq with hq | hq <;> omega) HS.out⟩, Nat.le_trans HI.out.hi hk7.size, HI.out.own⟩
            have HI7 := Lib.hid hI7
            clear hs7 hs7' hk7 hI7
            go_roundw
            case rel => exact ⟨k + 1, _, _, by omega, by go_num, by rw [HFm.out, HV.out, if_pos HMaj.out, List.append_nil], by rw [HCh.out, HCs.out, if_pos HMaj.out]; rfl, by rw [HFm.out, HV.out, HCh.out, HCs.out, if_pos HMaj.out, if_pos HMaj.out, List.append_nil]; exact HI7.out⟩
            case measure => simp [intOf]; omega
          · (obtain ⟨u0, u1, u2, _⟩ := cells4 (HS5.out.get 1 rfl : w5.heap[wr.heap.size]? = some (.cells #[.int .u64 qs, .int .u64 qb, .string (strB qv), .slice so qw.length sc] 124)))
            (obtain ⟨n0, n1, n2⟩ := cells3 (HS5.out.get 3 rfl : w5.heap[w.heap.size + 3]? = some (.cells #[y0, y1, y2] 56)))
            (have nz : ∀ j, w5.frozen? ⟨w.heap.size + 3, j, none⟩ = false := fun j => by have hh : w5.heap[w.heap.size + 3]? = _ := HS5.out.get 3 rfl; simp [World.frozen?, hh])
            have hmd : decide (many / 2 < (qw.length : Int)) = false := decide_eq_false (by simp at hmaj; omega)
            have HMaj := Lib.hid hmaj
            clear hmaj
            go_wp2_with (first
              | (at_builtin; (refine wpList_appS rfl (.tmp 80) (.tmp 85) 64 rfl 0 124 i0 _ 4 56 Try.underlying64 hi hz0 hz1 hz2 rfl (by decide) (by decide) rfl rfl rfl rfl (HS5.out.get 2 rfl) (by intro u hu; simp at hu; rcases hu with rfl | rfl | rfl | rfl <;> rfl) (by omega) (Nat.zero_le _) ?_)
                 intro g8 cap8 w8 hown8 hg8 hor8
                 have HO8 := Lib.hid hown8
                 have HG8 := Lib.hid hg8
                 have HOr8 := Lib.hid hor8
                 clear hown8 hg8 hor8)
              | fail)
            have HBN := HB15
            have HKN : Hid (∀ T : Nat → Prop, (∀ q, wr.heap.size ≤ q → T q) → Keep T wr w5) := Lib.hid (fun T hT => Below.keep0 _ HB15.out)
            have HLoN : Hid (∀ k', (Value.slice o5 qw.length c5).ownBlock = some k' → wr.heap.size ≤ k' ∧ k' < w5.heap.size) := Lib.hid (fun k' hk' => ⟨HLo5.out k' hk', (HO5.out.lt k' hk').2⟩)
            have hs8 := HS5.out.rowApp 2 rfl HG8.out HOr8.out HO8.out
            have hs8' := hs8.sub (l := [obRow (.slice (some ⟨g8, 0, none⟩) (os.length + 1) cap8) 124 4 (os.length + 1) (vs ++ [.int .u64 qs, .int .u64 qb, .string (strB qv), .slice o5 qw.length c5]), obBlk (w.heap.size + 3) (.cells #[y0, y1, y2] 56), obBlk (w.heap.size + 2) (.cells #[.int .u64 0, .int .u64 0, .string ⟨#[]⟩] 56), obBlk (w.heap.size + 1) (.cells #[.int .i64 0, .int .i64 0, .int .u64 0, .int .u64 0, .int .u64 0, .slice none 0 0, .slice none 0 0, .slice none 0 0] 66), obBlk w.heap.size (.cells #[.int .i64 many, .int .i64 2, .int .u64 b, .int .u64 first, .int .u64 next, .slice po prom.length pc, .slice ko kn.length kc, .slice oo op.length oc] 66)]) ((List.sublist_cons_self _ _).trans (List.sublist_cons_self _ _))
            have hwr : SlR w8 (.slice o5 qw.length c5) (i64s qw) := by have := hs8.row 0 rfl; simpa [i64s] using this
            have hg := HOc.out.grow (o := ⟨⟨qs, qb, qv⟩, qw⟩) (sv := .slice o5 qw.length c5) (n' := os.length + 1) (cap := cap8) HBN.out HI.out.hi HG8.out HOr8.out HS.out HI.out.own hwr (fun k' hk' => Or.inr ⟨Nat.le_trans HI.out.hi (HLoN.out k' hk').1, (HLoN.out k' hk').2, fun hh => by have h1 := (HLoN.out k' hk').1; have h2 := ((HSp.out.get 0 rfl : wr.ownsRow 0 124 4 (.slice o0 os.length oc0) os.length vs).lt k' hh).2; omega⟩)
            have hI8 : AcI S w w8 ⟨many, 2, b, first, next, prom, kn, op⟩ (.slice po prom.length pc) (.slice ko kn.length kc) (.slice oo op.length oc) (.slice (some ⟨g8, 0, none⟩) (os.length + 1) cap8) (os ++ [⟨⟨qs, qb, qv⟩, qw⟩]) c := by
              refine ⟨⟨vs ++ [.int .u64 qs, .int .u64 qb, .string (strB qv), .slice o5 qw.length c5], ?_, hg⟩, Nat.le_trans HI.out.hi (Nat.le_trans HBN.out.size (Nat.le_trans (by simp) HG8.out.size)), fun k' hk' => ?_⟩
              · rw [List.length_append, HY.out]; exact hs8'
              · have : g8 = k' := by simpa [Value.ownBlock] using hk'
                subst this
                rcases HOr8.out with hh | hh
                · exact HI.out.own _ hh
                · have := HI.out.hi; have := HBN.out.size; omega
            have HI8 := Lib.hid hI8
            clear hs8 hs8' hwr hg hI8
            go_roundw
            case rel => exact ⟨k + 1, _, _, by omega, by go_num, by rw [HFm.out, HV.out, if_neg (show ¬ (many / 2 < (qw.length : Int)) by have := HMaj.out; omega), List.length_append]; rfl, by rw [HCh.out, HCs.out, if_neg (show ¬ (many / 2 < (qw.length : Int)) by have := HMaj.out; omega)], by rw [HFm.out, HV.out, HCh.out, HCs.out, if_neg (show ¬ (many / 2 < (qw.length : Int)) by have := HMaj.out; omega), if_neg (show ¬ (many / 2 < (qw.length : Int)) by have := HMaj.out; omega)]; show AcI S w w8 _ _ _ _ (.slice (some ⟨g8, 0, none⟩) (os ++ [_]).length cap8) (os ++ [_]) c; rw [List.length_append]; exact HI8.out⟩
            case measure => simp [intOf]; omega
      · have dq : (qs != s) = true := by simpa using hqs
        have hU : ∀ u ∈ (#[.int .u64 qs, .int .u64 qb, .string (strB qv), .slice so qw.length sc] : Array Value).toList, u.oneCell' = true := by intro u hu; simp at hu; rcases hu with rfl | rfl | rfl | rfl <;> rfl
        have HU := Lib.hid hU
        have hV := rVote_no (many := many) (node := node) (slot := s) (o := ⟨⟨qs, qb, qv⟩, qw⟩) hqs
        have HV := Lib.hid hV
        have hCs : chS many node s c ⟨⟨qs, qb, qv⟩, qw⟩ = c := by unfold chS; rw [if_neg (fun hh => hqs hh.1)]
        have HCs := Lib.hid hCs
        clear hU hV hCs hqs
        go_wp2_with (first
          | (at_builtin; (refine wpList_appS rfl (.tmp 56) (.tmp 58) 64 rfl 0 124 i0 _ 4 56 Try.underlying64 hi hz0 hz1 hz2 rfl (by decide) (by decide) rfl rfl (by simp) rfl (HSpX.out.get 1 rfl) HU.out (by omega) (Nat.zero_le _) ?_)
             intro g8 cap8 w8 hown8 hg8 hor8
             have HO8 := Lib.hid hown8
             have HG8 := Lib.hid hg8
             have HOr8 := Lib.hid hor8
             clear hown8 hg8 hor8)
          | fail)
        have hs8 := HSpX.out.rowApp 1 rfl HG8.out HOr8.out HO8.out
        have hs8' := hs8.sub (l := [obRow (.slice (some ⟨g8, 0, none⟩) (os.length + 1) cap8) 124 4 (os.length + 1) (vs ++ [.int .u64 qs, .int .u64 qb, .string (strB qv), .slice so qw.length sc]), obBlk (w.heap.size + 3) (.cells #[y0, y1, y2] 56), obBlk (w.heap.size + 2) (.cells #[.int .u64 0, .int .u64 0, .string ⟨#[]⟩] 56), obBlk (w.heap.size + 1) (.cells #[.int .i64 0, .int .i64 0, .int .u64 0, .int .u64 0, .int .u64 0, .slice none 0 0, .slice none 0 0, .slice none 0 0] 66), obBlk w.heap.size (.cells #[.int .i64 many, .int .i64 2, .int .u64 b, .int .u64 first, .int .u64 next, .slice po prom.length pc, .slice ko kn.length kc, .slice oo op.length oc] 66)]) (List.sublist_cons_self _ _)
        have hk8 : Keep (fun q => (Value.slice o0 os.length oc0).ownBlock = some q) wr w8 := (Below.keep0 _ HA1.out).trans ((Below.keep0 _ ((Below.refl _ _).alloc (Nat.le_refl _) _)).trans (Keep.grown HG8.out (fun k hk => hk)))
        have hg := HOc.out.grow (o := ⟨⟨qs, qb, qv⟩, qw⟩) (sv := .slice so qw.length sc) (n' := os.length + 1) (cap := cap8) HA1.out HI.out.hi HG8.out HOr8.out HS.out HI.out.own (HXs.out.keep hk8 (fun k' hk' hh => by have := HS.out k' (HXo.out k' hk'); have := HI.out.own k' hh; omega)) (fun k' hk' => Or.inl (HXo.out k' hk'))
        have hI8 : AcI S w w8 ⟨many, 2, b, first, next, prom, kn, op⟩ (.slice po prom.length pc) (.slice ko kn.length kc) (.slice oo op.length oc) (.slice (some ⟨g8, 0, none⟩) (os.length + 1) cap8) (os ++ [⟨⟨qs, qb, qv⟩, qw⟩]) c := by
          refine ⟨⟨vs ++ [.int .u64 qs, .int .u64 qb, .string (strB qv), .slice so qw.length sc], ?_, hg⟩, Nat.le_trans HI.out.hi (Nat.le_trans HA1.out.size (Nat.le_trans (by simp) HG8.out.size)), fun k' hk' => ?_⟩
          · rw [List.length_append, HY.out]; exact hs8'
          · have : g8 = k' := by simpa [Value.ownBlock] using hk'
            subst this
            rcases HOr8.out with hh | hh
            · exact HI.out.own _ hh
            · have := HI.out.hi; simp at hh; omega
        have HI8 := Lib.hid hI8
        clear hs8 hs8' hk8 hg hI8
        go_roundw
        case rel => exact ⟨k + 1, _, _, by omega, by go_num, by rw [HFm.out, HV.out, List.length_append]; rfl, by rw [HCh.out, HCs.out], by rw [HFm.out, HV.out, HCh.out, HCs.out]; show AcI S w w8 _ _ _ _ (.slice (some ⟨g8, 0, none⟩) (os ++ [_]).length cap8) (os ++ [_]) c; rw [List.length_append]; exact HI8.out⟩
        case measure => simp [intOf]; omega
    · have hkl : k = op.length := by omega
      subst hkl
      clear hlt hk
      simp only [List.take_length] at HI HSp HOc HY hml ⊢
      try simp only [Nat.add_assoc, Nat.reduceAdd]
      have hrA : (rAcc ⟨many, 2, b, first, next, prom, kn, op⟩ node s).op = op.filterMap (rVote many node s) := rfl
      have HRA := Lib.hid hrA
      clear hrA
      generalize op.filterMap (rVote many node s) = os at *
      generalize hcc : chF many node s op = c at *
      have HCc := Lib.hid hcc
      clear hcc
      have hy := HY.out
      rcases c with _ | ⟨cs, cb, cv⟩
      · simp only [chC, Array.mk.injEq, List.cons.injEq, and_true] at hy
        obtain ⟨rfl, rfl, rfl⟩ := hy
        have pz : ∀ j, wr.frozen? ⟨w.heap.size, j, none⟩ = false := fun j => by have hh : wr.heap[w.heap.size]? = _ := HSp.out.get 4 rfl; simp [World.frozen?, hh]
        go_wp2_with fail
        clear pz e0 e1 e2 e3 e4 e5 e6 e7
        have hs9 := HSp.out.blkSet 4 rfl 7 (.slice o0 os.length oc0)
        simp only [List.set_cons_succ, List.set_cons_zero, List.setIfInBounds_toArray] at hs9
        have HK9 := Lib.hid ((Keep.refl (fun q => w.heap.size ≤ q ∧ q < w.heap.size + 4) wr).setCell (p := ⟨w.heap.size, 7, none⟩) (Or.inl ⟨Nat.le_refl _, by simp⟩) (.slice o0 os.length oc0))
        generalize wr.setCell ⟨w.heap.size, 7, none⟩ (.slice o0 os.length oc0) = w9 at *
        have HS9 := Lib.hid hs9
        clear hs9
        obtain ⟨q0, q1, q2, q3, q4, q5, q6, q7⟩ := cells8 (HS9.out.get 4 rfl : w9.heap[w.heap.size]? = some (.cells #[.int .i64 many, .int .i64 2, .int .u64 b, .int .u64 first, .int .u64 next, .slice po prom.length pc, .slice ko kn.length kc, .slice o0 os.length oc0] 66))
        obtain ⟨x0, x1, x2⟩ := cells3 (HS9.out.get 1 rfl : w9.heap[w.heap.size + 3]? = some (.cells #[.int .u64 0, .int .u64 0, .string ⟨#[]⟩] 56))
        have rz : ∀ j, w9.frozen? ⟨w.heap.size + 1, j, none⟩ = false := fun j => by have hh : w9.heap[w.heap.size + 1]? = _ := HS9.out.get 3 rfl; simp [World.frozen?, hh]
        have vz : ∀ j, w9.frozen? ⟨w.heap.size + 2, j, none⟩ = false := fun j => by have hh : w9.heap[w.heap.size + 2]? = _ := HS9.out.get 2 rfl; simp [World.frozen?, hh]
        obtain ⟨r0, r1, r2, r3, r4, r5, r6, r7⟩ := cells8 (HS9.out.get 3 rfl : w9.heap[w.heap.size + 1]? = some (.cells #[.int .i64 0, .int .i64 0, .int .u64 0, .int .u64 0, .int .u64 0, .slice none 0 0, .slice none 0 0, .slice none 0 0] 66))
        obtain ⟨v0, v1, v2⟩ := cells3 (HS9.out.get 2 rfl : w9.heap[w.heap.size + 2]? = some (.cells #[.int .u64 0, .int .u64 0, .string ⟨#[]⟩] 56))
        go_region_with (fail)
        all_goals
          go_wp2_with fail
          have hs10 := ((HS9.out.blkSet8 3 rfl (.int .i64 many) (.int .i64 2) (.int .u64 b) (.int .u64 first) (.int .u64 next) (.slice po prom.length pc) (.slice ko kn.length kc) (.slice o0 os.length oc0)).blkSet3 2 rfl (.int .u64 0) (.int .u64 0) (.string ⟨#[]⟩)).drew
          have hkF := (((((((((((HK9.out.setCell (p := ⟨w.heap.size + 1, 0, none⟩) (Or.inl ⟨by simp, by simp⟩) (.int .i64 many)).setCell (p := ⟨w.heap.size + 1, 1, none⟩) (Or.inl ⟨by simp, by simp⟩) (.int .i64 2)).setCell (p := ⟨w.heap.size + 1, 2, none⟩) (Or.inl ⟨by simp, by simp⟩) (.int .u64 b)).setCell (p := ⟨w.heap.size + 1, 3, none⟩) (Or.inl ⟨by simp, by simp⟩) (.int .u64 first)).setCell (p := ⟨w.heap.size + 1, 4, none⟩) (Or.inl ⟨by simp, by simp⟩) (.int .u64 next)).setCell (p := ⟨w.heap.size + 1, 5, none⟩) (Or.inl ⟨by simp, by simp⟩) (.slice po prom.length pc)).setCell (p := ⟨w.heap.size + 1, 6, none⟩) (Or.inl ⟨by simp, by simp⟩) (.slice ko kn.length kc)).setCell (p := ⟨w.heap.size + 1, 7, none⟩) (Or.inl ⟨by simp, by simp⟩) (.slice o0 os.length oc0)).setCell (p := ⟨w.heap.size + 2, 0, none⟩) (Or.inl ⟨by simp, by simp⟩) (.int .u64 0)).setCell (p := ⟨w.heap.size + 2, 1, none⟩) (Or.inl ⟨by simp, by simp⟩) (.int .u64 0)).setCell (p := ⟨w.heap.size + 2, 2, none⟩) (Or.inl ⟨by simp, by simp⟩) (.string ⟨#[]⟩)).drew
          clear q0 q1 q2 q3 q4 q5 q6 q7 x0 x1 x2 rz vz r0 r1 r2 r3 r4 r5 r6 r7 v0 v1 v2
          generalize (((((((((((w9.setCell ⟨w.heap.size + 1, 0, none⟩ (.int .i64 many)).setCell ⟨w.heap.size + 1, 1, none⟩ (.int .i64 2)).setCell ⟨w.heap.size + 1, 2, none⟩ (.int .u64 b)).setCell ⟨w.heap.size + 1, 3, none⟩ (.int .u64 first)).setCell ⟨w.heap.size + 1, 4, none⟩ (.int .u64 next)).setCell ⟨w.heap.size + 1, 5, none⟩ (.slice po prom.length pc)).setCell ⟨w.heap.size + 1, 6, none⟩ (.slice ko kn.length kc)).setCell ⟨w.heap.size + 1, 7, none⟩ (.slice o0 os.length oc0)).setCell ⟨w.heap.size + 2, 0, none⟩ (.int .u64 0)).setCell ⟨w.heap.size + 2, 1, none⟩ (.int .u64 0)).setCell ⟨w.heap.size + 2, 2, none⟩ (.string ⟨#[]⟩)).drew = W4 at *
          have HS10 := Lib.hid hs10
          have HKF := Lib.hid hkF
          clear hs10 hkF
          obtain ⟨s0, s1, s2, s3, s4, s5, s6, s7⟩ := cells8 (HS10.out.get 3 rfl : W4.heap[w.heap.size + 1]? = some (.cells #[.int .i64 many, .int .i64 2, .int .u64 b, .int .u64 first, .int .u64 next, .slice po prom.length pc, .slice ko kn.length kc, .slice o0 os.length oc0] 66))
          obtain ⟨v0, v1, v2⟩ := cells3 (HS10.out.get 2 rfl : W4.heap[w.heap.size + 2]? = some (.cells #[.int .u64 0, .int .u64 0, .string ⟨#[]⟩] 56))
          refine bodyPost_ret (v := .tuple #[.agg #[.int .i64 many, .int .i64 2, .int .u64 b, .int .u64 first, .int .u64 next, .slice po prom.length pc, .slice ko kn.length kc, .slice o0 os.length oc0], .agg #[.int .u64 0, .int .u64 0, .string ⟨#[]⟩], .bool false]) (by simp [results, Try.results40, go_sem, s0, s1, s2, s3, s4, s5, s6, s7, v0, v1, v2]) rfl ?_
          have hb := HS10.out.below
          refine ⟨_, by rw [HCc.out]; rfl, H.out.turnOp (R' := rAcc ⟨many, 2, b, first, next, prom, kn, op⟩ node s) hb rfl rfl (vs := vs) (by rw [HRA.out]; exact HS10.out.get 0 rfl) (fun k hk => HS10.out.sep.base _ (List.mem_cons_self ..) k hk) (by rw [HRA.out]; exact (HOc.out.stay HKF.out (fun q hq => ⟨hq.1, Or.inl hq.2⟩) HS.out).mono (fun q hq => by rcases hq with hq | ⟨g1, g2, g3⟩; exact Or.inl hq; exact Or.inr ⟨by omega, g2⟩)), hb⟩
      · simp only [chC, Array.mk.injEq, List.cons.injEq, and_true] at hy
        obtain ⟨rfl, rfl, rfl⟩ := hy
        have pz : ∀ j, wr.frozen? ⟨w.heap.size, j, none⟩ = false := fun j => by have hh : wr.heap[w.heap.size]? = _ := HSp.out.get 4 rfl; simp [World.frozen?, hh]
        go_wp2_with fail
        clear pz e0 e1 e2 e3 e4 e5 e6 e7
        have hs9 := HSp.out.blkSet 4 rfl 7 (.slice o0 os.length oc0)
        simp only [List.set_cons_succ, List.set_cons_zero, List.setIfInBounds_toArray] at hs9
        have HK9 := Lib.hid ((Keep.refl (fun q => w.heap.size ≤ q ∧ q < w.heap.size + 4) wr).setCell (p := ⟨w.heap.size, 7, none⟩) (Or.inl ⟨Nat.le_refl _, by simp⟩) (.slice o0 os.length oc0))
        generalize wr.setCell ⟨w.heap.size, 7, none⟩ (.slice o0 os.length oc0) = w9 at *
        have HS9 := Lib.hid hs9
        clear hs9
        obtain ⟨q0, q1, q2, q3, q4, q5, q6, q7⟩ := cells8 (HS9.out.get 4 rfl : w9.heap[w.heap.size]? = some (.cells #[.int .i64 many, .int .i64 2, .int .u64 b, .int .u64 first, .int .u64 next, .slice po prom.length pc, .slice ko kn.length kc, .slice o0 os.length oc0] 66))
        obtain ⟨x0, x1, x2⟩ := cells3 (HS9.out.get 1 rfl : w9.heap[w.heap.size + 3]? = some (.cells #[.int .u64 cs, .int .u64 cb, .string (strB cv)] 56))
        have rz : ∀ j, w9.frozen? ⟨w.heap.size + 1, j, none⟩ = false := fun j => by have hh : w9.heap[w.heap.size + 1]? = _ := HS9.out.get 3 rfl; simp [World.frozen?, hh]
        have vz : ∀ j, w9.frozen? ⟨w.heap.size + 2, j, none⟩ = false := fun j => by have hh : w9.heap[w.heap.size + 2]? = _ := HS9.out.get 2 rfl; simp [World.frozen?, hh]
        obtain ⟨r0, r1, r2, r3, r4, r5, r6, r7⟩ := cells8 (HS9.out.get 3 rfl : w9.heap[w.heap.size + 1]? = some (.cells #[.int .i64 0, .int .i64 0, .int .u64 0, .int .u64 0, .int .u64 0, .slice none 0 0, .slice none 0 0, .slice none 0 0] 66))
        obtain ⟨v0, v1, v2⟩ := cells3 (HS9.out.get 2 rfl : w9.heap[w.heap.size + 2]? = some (.cells #[.int .u64 0, .int .u64 0, .string ⟨#[]⟩] 56))
        go_region_with (fail)
        all_goals
          go_wp2_with fail
          have hs10 := ((HS9.out.blkSet8 3 rfl (.int .i64 many) (.int .i64 2) (.int .u64 b) (.int .u64 first) (.int .u64 next) (.slice po prom.length pc) (.slice ko kn.length kc) (.slice o0 os.length oc0)).blkSet3 2 rfl (.int .u64 cs) (.int .u64 cb) (.string (strB cv))).drew
          have hkF := (((((((((((HK9.out.setCell (p := ⟨w.heap.size + 1, 0, none⟩) (Or.inl ⟨by simp, by simp⟩) (.int .i64 many)).setCell (p := ⟨w.heap.size + 1, 1, none⟩) (Or.inl ⟨by simp, by simp⟩) (.int .i64 2)).setCell (p := ⟨w.heap.size + 1, 2, none⟩) (Or.inl ⟨by simp, by simp⟩) (.int .u64 b)).setCell (p := ⟨w.heap.size + 1, 3, none⟩) (Or.inl ⟨by simp, by simp⟩) (.int .u64 first)).setCell (p := ⟨w.heap.size + 1, 4, none⟩) (Or.inl ⟨by simp, by simp⟩) (.int .u64 next)).setCell (p := ⟨w.heap.size + 1, 5, none⟩) (Or.inl ⟨by simp, by simp⟩) (.slice po prom.length pc)).setCell (p := ⟨w.heap.size + 1, 6, none⟩) (Or.inl ⟨by simp, by simp⟩) (.slice ko kn.length kc)).setCell (p := ⟨w.heap.size + 1, 7, none⟩) (Or.inl ⟨by simp, by simp⟩) (.slice o0 os.length oc0)).setCell (p := ⟨w.heap.size + 2, 0, none⟩) (Or.inl ⟨by simp, by simp⟩) (.int .u64 cs)).setCell (p := ⟨w.heap.size + 2, 1, none⟩) (Or.inl ⟨by simp, by simp⟩) (.int .u64 cb)).setCell (p := ⟨w.heap.size + 2, 2, none⟩) (Or.inl ⟨by simp, by simp⟩) (.string (strB cv))).drew
          clear q0 q1 q2 q3 q4 q5 q6 q7 x0 x1 x2 rz vz r0 r1 r2 r3 r4 r5 r6 r7 v0 v1 v2
          generalize (((((((((((w9.setCell ⟨w.heap.size + 1, 0, none⟩ (.int .i64 many)).setCell ⟨w.heap.size + 1, 1, none⟩ (.int .i64 2)).setCell ⟨w.heap.size + 1, 2, none⟩ (.int .u64 b)).setCell ⟨w.heap.size + 1, 3, none⟩ (.int .u64 first)).setCell ⟨w.heap.size + 1, 4, none⟩ (.int .u64 next)).setCell ⟨w.heap.size + 1, 5, none⟩ (.slice po prom.length pc)).setCell ⟨w.heap.size + 1, 6, none⟩ (.slice ko kn.length kc)).setCell ⟨w.heap.size + 1, 7, none⟩ (.slice o0 os.length oc0)).setCell ⟨w.heap.size + 2, 0, none⟩ (.int .u64 cs)).setCell ⟨w.heap.size + 2, 1, none⟩ (.int .u64 cb)).setCell ⟨w.heap.size + 2, 2, none⟩ (.string (strB cv))).drew = W4 at *
          have HS10 := Lib.hid hs10
          have HKF := Lib.hid hkF
          clear hs10 hkF
          obtain ⟨s0, s1, s2, s3, s4, s5, s6, s7⟩ := cells8 (HS10.out.get 3 rfl : W4.heap[w.heap.size + 1]? = some (.cells #[.int .i64 many, .int .i64 2, .int .u64 b, .int .u64 first, .int .u64 next, .slice po prom.length pc, .slice ko kn.length kc, .slice o0 os.length oc0] 66))
          obtain ⟨v0, v1, v2⟩ := cells3 (HS10.out.get 2 rfl : W4.heap[w.heap.size + 2]? = some (.cells #[.int .u64 cs, .int .u64 cb, .string (strB cv)] 56))
          refine bodyPost_ret (v := .tuple #[.agg #[.int .i64 many, .int .i64 2, .int .u64 b, .int .u64 first, .int .u64 next, .slice po prom.length pc, .slice ko kn.length kc, .slice o0 os.length oc0], .agg #[.int .u64 cs, .int .u64 cb, .string (strB cv)], .bool true]) (by simp [results, Try.results40, go_sem, s0, s1, s2, s3, s4, s5, s6, s7, v0, v1, v2]) rfl ?_
          have hb := HS10.out.below
          refine ⟨_, by rw [HCc.out]; rfl, H.out.turnOp (R' := rAcc ⟨many, 2, b, first, next, prom, kn, op⟩ node s) hb rfl rfl (vs := vs) (by rw [HRA.out]; exact HS10.out.get 0 rfl) (fun k hk => HS10.out.sep.base _ (List.mem_cons_self ..) k hk) (by rw [HRA.out]; exact (HOc.out.stay HKF.out (fun q hq => ⟨hq.1, Or.inl hq.2⟩) HS.out).mono (fun q hq => by rcases hq with hq | ⟨g1, g2, g3⟩; exact Or.inl hq; exact Or.inr ⟨by omega, g2⟩)), hb⟩
end Go.Proofs.Ytjdjfhioobhcjaa
