/-
  Package paxos: accepted.
-/
import Derived.Test.YtgmdedkingampaaGreatPxI
set_option linter.unusedVariables false
set_option linter.unusedSimpArgs false
namespace Go.Proofs.YtgmdedkingampaaGreat
open Go.ChangeShapes Go.WideShapes Go.ChangeAt Go.RowKit Go.Maps
set_option maxRecDepth 1000000
set_option linter.unusedVariables false
set_option linter.unusedSimpArgs false

theorem rB_few {m : Int} {r : RS} : (rB m r).2.length ≤ r.b.length := by
  have hle := rU_le r
  unfold rB
  split
  · simp
  · split
    · simp
    · refine Nat.le_trans ?_ hle
      unfold rTake
      split
      · simp
      · split
        · simp
        · simp; omega
/-- Votes that were read are sound. -/
theorem getL_ok {B : Nat} (hB : B ≤ 1000000) : ∀ (n : Nat) (r : RS) (out : List Vt), U8 r.b → r.b.length ≤ B → (∀ v ∈ out, U1 v.slot ∧ U1 v.ballot ∧ U8 v.val ∧ v.val.length ≤ B) →
    (∀ v ∈ (getL n r out).2, U1 v.slot ∧ U1 v.ballot ∧ U8 v.val ∧ v.val.length ≤ B) ∧ (getL n r out).2.length ≤ out.length + r.b.length
  | 0, r, out, h8, hl, ho => by
    rw [getL]
    split
    · exact ⟨by intro v hv; (cases hv), by simp⟩
    · exact ⟨ho, by simp⟩
  | n + 1, r, out, h8, hl, ho => by
    by_cases h1 : (rU r).1.e = 0
    · cases h2 : notAbove out (rU r).2 with
      | true => rw [getL_two h1 h2]; exact ⟨by intro v hv; (cases hv), by simp⟩
      | false =>
        by_cases h3 : (rB (32768 : Nat) (rU (rU r).1).1).1.e = 0
        · rw [getL_four h1 h2 h3]
          have b1 := rU_b8 h8 (by omega)
          have b2 := rU_b8 b1.1 b1.2
          have b3 := rB_b8 (m := (32768 : Nat)) b2.1 b2.2
          have b4 := rB_val (m := (32768 : Nat)) b2.1 b2.2
          have b5 := rB_few (m := (32768 : Nat)) (r := (rU (rU r).1).1)
          have l1 := rU_less h1
          have l2 := rU_le (rU r).1
          have d1 := rU_bd h8 (by omega)
          have d2 := rU_bd b1.1 b1.2
          have ih := getL_ok hB n (rB (32768 : Nat) (rU (rU r).1).1).1 (out ++ [⟨(rU r).2, (rU (rU r).1).2, (rB (32768 : Nat) (rU (rU r).1).1).2⟩]) b3.1 (by omega) (by
            intro v hv
            rcases List.mem_append.1 hv with hv | hv
            · exact ho v hv
            · obtain rfl : v = _ := by simpa using hv
              exact ⟨d1, d2, b4.1, by show (rB (32768 : Nat) (rU (rU r).1).1).2.length ≤ B; omega⟩)
          refine ⟨ih.1, Nat.le_trans ih.2 ?_⟩
          rw [List.length_append, List.length_cons, List.length_nil]
          have := b3.2
          omega
        · rw [getL_three h1 h2 h3]; exact ⟨by intro v hv; (cases hv), by simp⟩
    · rw [getL_one h1]; exact ⟨by intro v hv; (cases hv), by simp⟩
theorem getV_ok {b : List Int} (h8 : U8 b) (hl : b.length ≤ 1000000) : (∀ v ∈ (getV b).2, U1 v.slot ∧ U1 v.ballot ∧ U8 v.val ∧ v.val.length ≤ b.length) ∧ (getV b).2.length ≤ b.length := by
  have b1 := rU_b8 (r := ⟨b, 0⟩) h8 (by show b.length ≤ _; omega)
  have l1 := rU_le ⟨b, 0⟩
  have ih := getL_ok (B := b.length) hl (rU ⟨b, 0⟩).2.toNat (rU ⟨b, 0⟩).1 [] b1.1 l1 (by intro v hv; cases hv)
  exact ⟨ih.1, Nat.le_trans ih.2 (by simpa using l1)⟩
/-- Is a promise one that the leader takes? -/
def PromOk (x : Nd) (t b : Int) (xs : List Int) : Prop :=
  (getV xs).1 = 0 ∧ (x.L.stage = 1 ∧ b = x.L.ballot ∧ 0 ≤ idxI x.ps t ∧ idxI x.ps t < x.L.many) ∧ x.L.prom (idxI x.ps t).toNat = false
/-- The leader behind it. -/
def promL1 (x : Nd) (t s : Int) (xs : List Int) : LS := promV x.L (idxI x.ps t).toNat s (getV xs).2
/-- What a promise comes to. -/
def PromR (x : Nd) (t b s : Int) (xs : List Int) (y : Nd) (ms : List Om) : Prop :=
  (¬ PromOk x t b xs ∧ y = x ∧ ms = []) ∨
  (PromOk x t b xs ∧ ¬ (promL1 x t s xs).many / 2 < cnt 32 (promL1 x t s xs).prom ∧ y = { x with L := promL1 x t s xs, NL := x.NL + (getV xs).2.length } ∧ ms = []) ∨
  (PromOk x t b xs ∧ (promL1 x t s xs).many / 2 < cnt 32 (promL1 x t s xs).prom ∧ farL (promL1 x t s xs) ∧ y = { x with L := stopL (promL1 x t s xs), NL := x.NL + (getV xs).2.length } ∧ ms = []) ∨
  (PromOk x t b xs ∧ (promL1 x t s xs).many / 2 < cnt 32 (promL1 x t s xs).prom ∧ ¬ farL (promL1 x t s xs) ∧ ∃ en ks, IsEnd (promL1 x t s xs) en ∧ IsOKeys (leadP (promL1 x t s xs) en) ks ∧
    y = { x with L := leadL (promL1 x t s xs) en, NL := x.NL + (getV xs).2.length + 4097 } ∧ ms = accO (opL (leadP (promL1 x t s xs) en) ks) x.ps)
section
variable {W w w' : World} {os : List Ob} {q : NdA} {f : NdF} {x : Nd}
theorem SepW.newS {n : Ob} (h : SepW W w os) (hn : SepW w w' [n]) : SepW W w' (n :: os) :=
  h.new hn.below (hn.sep.good n (by simp)) (hn.sep.inv n (by simp)) (fun k hk => hn.sep.base n (by simp) k hk)
theorem SepW.nilVts (h : SepW W w os) (e : TypeId) : SepW W w (obVts (.slice none 0 0) e [] [] :: os) :=
  h.new (Below.refl _ _) (obVts_good ..) ⟨World.ownsRow_nil _ _ _ _, VtC.nil _, by intro u hu; cases hu⟩ (fun k hk => by
    rcases hk with hk | ⟨u, hu, _⟩
    · cases hk
    · cases hu)
/-- What the leader's 'Promise' comes to, in one shape. -/
theorem nd_leaProm {vo : Ob} {v : Value} {xs : List Int} (h : SepW W w (ndOs q f x (vo :: os))) (hvo : ∀ w', vo.inv w' → VtL w' v (getV xs).2) {t b s : Int} (us : U1 s) (ux : U8 xs) (lx : xs.length ≤ 100000) (hN : x.NL ≤ 600000) (h0 : (getV xs).1 = 0) :
    Calls Tryz.prog 91 #[.pointer q.lp, .int .i64 (idxI x.ps t), .int .u64 b, .int .u64 s, v] w fun e w' =>
      ∃ (y : Nd) (f2 : NdF) (out : List Vt) (is : Bool) (ao : Option Addr) (c : Nat) (vs : List Value), e = .returned (.tuple #[.slice ao out.length c, .bool is]) ∧ SepW W w' (obVts (.slice ao out.length c) 80 vs out :: ndOs q f2 y (vo :: os)) ∧
        PromR x t b s xs y (if is = true then accO out x.ps else []) ∧ y.ps = x.ps ∧ out.length ≤ 1000000 := by
  have hok := getV_ok ux (by omega)
  by_cases hyes : x.L.stage = 1 ∧ b = x.L.ballot ∧ 0 ≤ idxI x.ps t ∧ idxI x.ps t < x.L.many
  · obtain ⟨n, hn⟩ : ∃ n : Nat, idxI x.ps t = (n : Int) := ⟨(idxI x.ps t).toNat, by omega⟩
    have hnn : (idxI x.ps t).toNat = n := by omega
    cases hp : x.L.prom n with
    | true =>
      rw [hn] at hyes ⊢
      refine (h.leaPromTwice 5 rfl hyes hp).mono ?_
      rintro e w1 ⟨rfl, rfl⟩
      exact ⟨x, f, [], false, none, 0, [], rfl, h.nilVts _, Or.inl ⟨fun hh => (by have := hh.2.2; rw [hnn, hp] at this; cases this), rfl, rfl⟩, rfl, by simp⟩
    | false =>
      have hpo : PromOk x t b xs := ⟨h0, hyes, by rw [hnn]; exact hp⟩
      have hL1 : promL1 x t s xs = promV x.L n s (getV xs).2 := by unfold promL1; rw [hnn]
      rw [hn] at hyes ⊢
      have hvi : vo.inv w := h.get 8 rfl
      have hd := h.sep.two (i := 5) (j := 8) (by decide) rfl rfl
      refine (h.leaProm 5 rfl hyes hp us (v := v) (fun w' hk => hvo w' ((h.sep.good vo (by simp)).keep hvi hk (fun k hk' => hd k hk'))) (fun u hu => ⟨(hok.1 u hu).1, (hok.1 u hu).2.1, (hok.1 u hu).2.2.1, by have := (hok.1 u hu).2.2.2; omega⟩) (by have := hok.2; omega)).mono ?_
      rw [← hL1]
      rintro e w1 (⟨g1, rfl, D', g2⟩ | ⟨g1, g2, rfl, D', g3⟩ | ⟨g1, g2, en, D', ks, ao, c, vs, g3, g4, rfl, g5⟩)
      · have g2' : SepW W w1 (ndOs q { f with le := D' } { x with L := promL1 x t s xs, NL := x.NL + (getV xs).2.length } (vo :: os)) := g2
        exact ⟨_, _, [], false, none, 0, [], rfl, g2'.nilVts _, Or.inr (Or.inl ⟨hpo, g1, rfl, rfl⟩), rfl, by simp⟩
      · have g3' : SepW W w1 (ndOs q { f with le := D' } { x with L := stopL (promL1 x t s xs), NL := x.NL + (getV xs).2.length } (vo :: os)) := g3
        exact ⟨_, _, [], false, none, 0, [], rfl, g3'.nilVts _, Or.inr (Or.inr (Or.inl ⟨hpo, g1, g2, rfl, rfl⟩)), rfl, by simp⟩
      · have g5' : SepW W w1 (obVts (.slice ao (opL (leadP (promL1 x t s xs) en) ks).length c) 80 vs (opL (leadP (promL1 x t s xs) en) ks) :: ndOs q { f with le := D' } { x with L := leadL (promL1 x t s xs) en, NL := x.NL + (getV xs).2.length + 4097 } (vo :: os)) := g5
        obtain ⟨_, K, hK1, hK2⟩ : LeaO (.pointer q.lp) D' w1 (x.NL + (getV xs).2.length + 4097) (leadL (promL1 x t s xs) en) := g5'.get 6 rfl
        have hkl : ks.length ≤ K.length := nodup_le (g4.1.imp (fun h => by omega)) (fun z hz => hK2 z ((g4.2 z).1 hz))
        have hol : (opL (leadP (promL1 x t s xs) en) ks).length ≤ ks.length := List.length_filterMap_le ..
        exact ⟨_, _, _, true, ao, c, vs, rfl, g5', Or.inr (Or.inr (Or.inr ⟨hpo, g1, g2, en, ks, g3, g4, rfl, rfl⟩)), rfl, by have := hok.2; omega⟩
  · refine (h.leaPromNo 5 rfl hyes).mono ?_
    rintro e w1 ⟨rfl, rfl⟩
    exact ⟨x, f, [], false, none, 0, [], rfl, h.nilVts _, Or.inl ⟨fun hh => hyes hh.2.1, rfl, rfl⟩, rfl, by simp⟩
set_option maxHeartbeats 4000000 in
theorem nd_promise (h : SepW W w (ndOs q f x os)) {k b s : Int} (o : Mo) {bv : Value} {xs : List Int} (t : Int) (us : U1 s) (hb : Held W os bv (u8s xs)) (ux : U8 xs) (lx : xs.length ≤ 100000) (hN : x.NL ≤ 600000) (hps : x.ps.length ≤ 7) :
    Calls Tryz.prog 49 #[.pointer (some ⟨q.x, 0, none⟩), .int .i64 t, .agg (msC k b s o bv)] w fun e w' => ∃ y ms, PromR x t b s xs y ms ∧ RetH W q os y ms e w' := by
  obtain ⟨bo, bc, rfl, hbc, hbc2⟩ := (hb.at0 h.ndRest).form
  simp only [List.length_map] at hb hbc hbc2 ⊢
  obtain ⟨W0, hW0⟩ : ∃ y, y = w.alloc (.cells (msC k b s o (.slice bo xs.length bc)) 42) := ⟨_, rfl⟩
  have H := Lib.hid (h.boxed k b s o (.slice bo xs.length bc) hW0)
  have HW := Lib.hid hW0
  have HUs := Lib.hid us
  have HB := Lib.hid hb
  have HX := Lib.hid ux
  clear h hW0 us hb ux
  go_enter Tryz.func49, Tryz.ntmps49
  go_upto_region 1 with fail
  rw [← HW.out]
  generalize w.heap.size = m at *
  clear HW
  obtain ⟨-, -, -, d10⟩ := H.out.msCell 8 rfl
  have HG := Lib.hid (get_any ((HB.out.more [_]).at0 H.out.ndRest) HX.out (by omega))
  have hok := getV_ok HX.out (by omega)
  have HOk := Lib.hid hok
  clear hok
  obtain ⟨qv, hqv⟩ : ∃ qv, getV xs = qv := ⟨_, rfl⟩
  rw [hqv] at HG
  have HQ := Lib.hid hqv
  clear hqv
  go_wp2_with fail
  refine HG.out.mono ?_
  rintro e w1 ⟨ao, c, vs, rfl, hs1⟩
  have HS1 := Lib.hid (H.out.newS hs1).behind
  clear hs1 HG d10
  by_cases hq0 : qv.1 = 0
  · rw [hq0]
    obtain ⟨⟨-, c1, -, -, -, c5, -, -⟩, -⟩ := HS1.out.ndCell 0 rfl
    obtain ⟨-, d1, d2, -⟩ := HS1.out.msCell 9 rfl
    have HI := Lib.hid (index_any (HS1.out.drew.row 7 rfl) t)
    have HP := Lib.hid (nd_leaProm (v := .slice ao qv.2.length c) (t := t) (b := b) (s := s) (xs := xs) HS1.out.drew (fun w' hi => by rw [HQ.out]; exact VtL.of_own hi.1 hi.2.1) HUs.out HX.out lx hN (by rw [HQ.out]; exact hq0))
    clear hq0
    go_wp2_with fail
    go_region_held3 (fun w' => w'.cell? ⟨q.x, 1, none⟩ = some (.slice q.po x.ps.length q.pc) ∧ w'.cell? ⟨q.x, 5, none⟩ = some (.pointer q.lp) ∧ w'.cell? ⟨m, 1, none⟩ = some (.int .u64 b) ∧ w'.cell? ⟨m, 2, none⟩ = some (.int .u64 s)) (first | with_reducible exact hS8 | go_keep)
      (first
        | (go_at_call 57; (with_reducible refine HI.out.mono ?_); rintro e w7 ⟨rfl, rfl⟩)
        | (go_at_call 91; (with_reducible refine HP.out.mono ?_); rintro e w8 ⟨y, f2, out, is, ao8, c8, vs8, rfl, hs8, hpr, hyps, hol⟩
           have hb8 := hs8.behind
           have hS8 : w8.cell? ⟨q.x, 1, none⟩ = some (.slice q.po x.ps.length q.pc) ∧ w8.cell? ⟨q.x, 5, none⟩ = some (.pointer q.lp) ∧ w8.cell? ⟨m, 1, none⟩ = some (.int .u64 b) ∧ w8.cell? ⟨m, 2, none⟩ = some (.int .u64 s) := ⟨hyps ▸ (hb8.ndCell 0 rfl).1.2.1, (hb8.ndCell 0 rfl).1.2.2.2.2.2.1, (hb8.msCell 10 rfl).2.1, (hb8.msCell 10 rfl).2.2.1⟩
           have HS8 := Lib.hid hs8
           have HPr := Lib.hid hpr
           have HYp := Lib.hid hyps
           clear hs8 hpr hyps hb8))
    all_goals
      clear hS8 c1 c5 d1 d2 HI HP HS1
      cases is
      · go_wp2_with fail
        go_ret
        exact ⟨y, [], HPr.out, RetH.nothing (SepW.dropB (pre := [_, _, _, _, _, _, _, _]) (l := [_, _]) HS8.out.tail)⟩
      · obtain ⟨l, hl1, hl2, hl3⟩ := HS8.out.vtsS
        have hl4 := SepW.dropB (pre := [_, _, _, _, _, _, _, _, _]) (l := [_, _]) hl3
        have HL := Lib.hid hl4
        have HL1 := Lib.hid hl1
        have HA := Lib.hid (nd_accepts (xa := q.x) (pv := .slice q.po y.ps.length q.pc) (hl4.ndCell 1 rfl).1.2.1 (hl4.row 8 rfl) (by rw [HYp.out]; exact hps) hl2 (by
          have := congrArg List.length hl1
          rw [List.length_map] at this
          omega))
        clear hl1 hl2 hl3 hl4 HS8
        go_wp2_with fail
        refine HA.out.mono ?_
        rintro e w9 ⟨ao9, c9, rfl, ho9, hb9⟩
        have HO := Lib.hid ho9
        have HB9 := Lib.hid hb9
        clear ho9 hb9 HA
        go_wp2_with fail
        go_ret
        refine ⟨y, accO out x.ps, HPr.out, ?_⟩
        rw [← HL1.out, ← HYp.out]
        exact RetH.acc HL.out HO.out HB9.out
  · have hne : (qv.1 == 0) = false := beq_eq_false_iff_ne.2 hq0
    have hno : ¬ PromOk x t b xs := fun hh => hq0 (by rw [← HQ.out]; exact hh.1)
    have HNo := Lib.hid hno
    clear hq0 hno
    go_wp2_with fail
    go_ret
    exact ⟨x, [], Or.inl ⟨HNo.out, rfl, rfl⟩, RetH.nothing (SepW.dropB (pre := [_, _, _, _, _, _, _, _]) (l := [_, _]) HS1.out)⟩
end
end Go.Proofs.YtgmdedkingampaaGreat

namespace Go.Proofs.YtgmdedkingampaaGreat
open Go.ChangeShapes Go.WideShapes Go.ChangeAt Go.RowKit Go.Maps
set_option maxRecDepth 1000000
set_option linter.unusedVariables false
set_option linter.unusedSimpArgs false

/-- Is a vote one that the leader counts? -/
def CntOk (x : Nd) (t b : Int) : Prop := x.L.stage = 2 ∧ b = x.L.ballot ∧ 0 ≤ idxI x.ps t ∧ idxI x.ps t < x.L.many
/-- What the leader makes of a vote: it behind it, and what it has chosen. -/
def CntR (x : Nd) (t b s : Int) (y : Nd) (o : Option Vt) : Prop :=
  ((¬ CntOk x t b ∨ x.L.op s = none) ∧ y = x ∧ o = none) ∨
  (CntOk x t b ∧ ∃ v g, x.L.op s = some (v, g) ∧
    ((x.L.many / 2 < cnt 32 (addK g (idxI x.ps t).toNat) ∧ y = { x with L := opD x.L v.slot, NL := x.NL + 1 } ∧ o = some v) ∨
     (¬ x.L.many / 2 < cnt 32 (addK g (idxI x.ps t).toNat) ∧ y = { x with L := opP x.L v (addK g (idxI x.ps t).toNat), NL := x.NL + 1 } ∧ o = none)))
theorem CntR.same {x y : Nd} {t b s : Int} {o : Option Vt} (h : CntR x t b s y o) : y.ps = x.ps ∧ y.e = x.e ∧ y.nl = x.nl ∧ y.sg = x.sg ∧ y.d = x.d ∧ y.kn = x.kn ∧ y.A = x.A ∧ (∀ v, o = some v → ∃ g, x.L.op s = some (v, g)) := by
  rcases h with ⟨_, rfl, rfl⟩ | ⟨_, v, g, h1, ⟨_, rfl, rfl⟩ | ⟨_, rfl, rfl⟩⟩
  · exact ⟨rfl, rfl, rfl, rfl, rfl, rfl, rfl, by intro v h; cases h⟩
  · exact ⟨rfl, rfl, rfl, rfl, rfl, rfl, rfl, by intro v' h; cases h; exact ⟨g, h1⟩⟩
  · exact ⟨rfl, rfl, rfl, rfl, rfl, rfl, rfl, by intro v h; cases h⟩
def AcceptedR (x : Nd) (t b s : Int) (y : Nd) (ms : List Om) : Prop :=
  ∃ y1 o, CntR x t b s y1 o ∧ match o with
    | none => y = y1 ∧ ms = []
    | some v => ∃ nx, y = learnN y1 v.slot v.val nx ∧ ms = allO x.ps 12 0 v.slot v.val
theorem learnN_ps (x : Nd) (s : Int) (xs : List Int) (nx : Int) : (learnN x s xs nx).ps = x.ps := by
  unfold learnN
  split
  · rfl
  · split
    · exact (noteN_same x _).2.1
    · exact (noteN_same x _).2.1
section
variable {W w w' : World} {os : List Ob} {q : NdA} {f : NdF} {x : Nd}
/-- What the leader's 'Accepted' comes to, in one shape. -/
theorem nd_leaAcc (h : SepW W w (ndOs q f x os)) {t b s : Int} (us : U1 s) (hN : x.NL ≤ 800000) :
    Calls Tryz.prog 95 #[.pointer q.lp, .int .i64 (idxI x.ps t), .int .u64 b, .int .u64 s] w fun e w' =>
      ∃ (y : Nd) (f2 : NdF) (o : Option Vt) (ao : Option Addr) (c : Nat), e = .returned (.tuple #[.agg #[.int .u64 (o.getD ⟨0, 0, []⟩).slot, .int .u64 (o.getD ⟨0, 0, []⟩).ballot, .slice ao (o.getD ⟨0, 0, []⟩).val.length c], .bool o.isSome]) ∧
        SepW W w' (obRow (.slice ao (o.getD ⟨0, 0, []⟩).val.length c) 5 1 (o.getD ⟨0, 0, []⟩).val.length (u8s (o.getD ⟨0, 0, []⟩).val) :: ndOs q f2 y os) ∧ CntR x t b s y o := by
  by_cases hyes : CntOk x t b
  · cases ho : x.L.op s with
    | none =>
      refine (h.leaAccNone 5 rfl hyes us ho).mono ?_
      rintro e w1 ⟨rfl, h1⟩
      exact ⟨x, f, none, none, 0, rfl, h1.nilRow _ _, Or.inl ⟨Or.inr ho, rfl, rfl⟩⟩
    | some vg =>
      obtain ⟨v, g⟩ := vg
      have hy := hyes
      obtain ⟨n, hn⟩ : ∃ n : Nat, idxI x.ps t = (n : Int) := ⟨(idxI x.ps t).toNat, by have := hyes.2.2.1; omega⟩
      have hnn : (idxI x.ps t).toNat = n := by omega
      unfold CntOk at hyes
      rw [hn] at hyes ⊢
      refine (h.leaAcc 5 rfl hyes us ho (by omega)).mono ?_
      rintro e w1 (⟨g1, ao, c, D', rfl, g2⟩ | ⟨g1, rfl, D', g2⟩)
      · have g2' : SepW W w1 (obRow (.slice ao v.val.length c) 5 1 v.val.length (u8s v.val) :: ndOs q { f with le := D' } { x with L := opD x.L v.slot, NL := x.NL + 1 } os) := g2
        exact ⟨_, _, some v, ao, c, rfl, g2', Or.inr ⟨hy, v, g, ho, Or.inl ⟨by rw [hnn]; exact g1, rfl, rfl⟩⟩⟩
      · have g2' : SepW W w1 (ndOs q { f with le := D' } { x with L := opP x.L v (addK g n), NL := x.NL + 1 } os) := g2
        exact ⟨_, _, none, none, 0, rfl, g2'.nilRow _ _, Or.inr ⟨hy, v, g, ho, Or.inr ⟨by rw [hnn]; exact g1, by rw [hnn], rfl⟩⟩⟩
  · refine (h.leaAccNo 5 rfl hyes).mono ?_
    rintro e w1 ⟨rfl, h1⟩
    exact ⟨x, f, none, none, 0, rfl, h1.nilRow _ _, Or.inl ⟨Or.inl hyes, rfl, rfl⟩⟩
theorem SepW.opSmall (h : SepW W w (ndOs q f x os)) {s : Int} {v : Vt} {g : Nat → Bool} (ho : x.L.op s = some (v, g)) : U1 s ∧ v.slot = s ∧ U1 v.ballot ∧ U8 v.val ∧ v.val.length ≤ 1000000 := by
  obtain ⟨⟨b0, ko, lo, n, _, h2, _⟩, _⟩ : LeaO (.pointer q.lp) f.le w x.NL x.L := h.get 5 rfl
  have := h2.op.small s (v, g) ho
  exact ⟨this.1, this.2.1, this.2.2⟩
attribute [local go_sem ↓] ex_rowStore
set_option maxHeartbeats 4000000 in
theorem nd_accepted (h : SepW W w (ndOs q f x os)) {k b s : Int} (o : Mo) (bv : Value) (t : Int) (us : U1 s) (hN : x.NL ≤ 800000) (hps : x.ps.length ≤ 7) (hr : ∀ v g, x.L.op s = some (v, g) → v.val.length ≤ 3900 ∧ Room x (noteB 3 [v.slot] (some v.val)).length) (he : x.e = 0) (hn : x.nl < 1000000) :
    Calls Tryz.prog 51 #[.pointer (some ⟨q.x, 0, none⟩), .int .i64 t, .agg (msC k b s o bv)] w fun e w' => ∃ y ms, AcceptedR x t b s y ms ∧ RetH W q os y ms e w' := by
  obtain ⟨W0, hW0⟩ : ∃ y, y = w.alloc (.cells (msC k b s o bv) 42) := ⟨_, rfl⟩
  have hops := fun v g (ho : x.L.op s = some (v, g)) => h.opSmall ho
  have HOps := Lib.hid hops
  have H := Lib.hid (h.boxed k b s o bv hW0)
  have HW := Lib.hid hW0
  have HUs := Lib.hid us
  have HR := Lib.hid hr
  have HE := Lib.hid he
  clear h hW0 us hops hr he
  go_enter Tryz.func51, Tryz.ntmps51
  go_upto_region 1 with fail
  rw [← HW.out]
  generalize w.heap.size = m at *
  clear HW
  go_cut [7, 8] from 9 (fun s7 s8 wc => ∃ (V : Nat) (y : Nd) (f2 : NdF) (r : Option Vt) (ao : Option Addr) (c : Nat), s7 = .pointer (some ⟨V, 0, none⟩) ∧ s8 = .bool r.isSome ∧ CntR x t b s y r ∧ SepW W wc (obRow (.slice ao (r.getD ⟨0, 0, []⟩).val.length c) 5 1 (r.getD ⟨0, 0, []⟩).val.length (u8s (r.getD ⟨0, 0, []⟩).val) :: ndOs q f2 y (obBlk V (.cells #[.int .u64 (r.getD ⟨0, 0, []⟩).slot, .int .u64 (r.getD ⟨0, 0, []⟩).ballot, .slice ao (r.getD ⟨0, 0, []⟩).val.length c] 80) :: obBlk m (.cells (msC k b s o bv) 42) :: os)))
  case first =>
    obtain ⟨⟨-, c1, -, -, -, c5, -, -⟩, -⟩ := H.out.ndCell 0 rfl
    obtain ⟨-, d1, d2, -⟩ := H.out.msCell 8 rfl
    have hz := (H.out.newBlk #[.int .u64 0, .int .u64 0, .slice none 0 0] 80).behind.drew
    have HI1 := Lib.hid (index_any (H.out.drew.row 7 rfl) t)
    have HI2 := Lib.hid (index_any (hz.row 7 rfl) t)
    have HV1 := Lib.hid (nd_leaAcc H.out.drew (t := t) (b := b) HUs.out hN)
    have HV2 := Lib.hid (nd_leaAcc hz (t := t) (b := b) HUs.out hN)
    have hMk : RowMark 80 := ⟨trivial⟩
    clear hz
    go_wp2_with fail
    go_region_held3 (fun w' => w'.cell? ⟨q.x, 1, none⟩ = some (.slice q.po x.ps.length q.pc) ∧ w'.cell? ⟨q.x, 5, none⟩ = some (.pointer q.lp) ∧ w'.cell? ⟨m, 1, none⟩ = some (.int .u64 b) ∧ w'.cell? ⟨m, 2, none⟩ = some (.int .u64 s)) (first | with_reducible exact hS8 | with_reducible exact hS9 | go_keep)
      (first
        | (go_at_call 57; (first | (with_reducible refine HI1.out.mono ?_) | (with_reducible refine HI2.out.mono ?_)); rintro e w7 ⟨rfl, rfl⟩)
        | (go_at_call 95; (with_reducible refine HV1.out.mono ?_); rintro e w8 ⟨y, f2, r, ao8, c8, rfl, hs8, hcr⟩
           have hyp := hcr.same.1
           have HCr := Lib.hid hcr
           generalize hold : r.getD ⟨0, 0, []⟩ = old at *
           have hS8 : w8.cell? ⟨q.x, 1, none⟩ = some (.slice q.po x.ps.length q.pc) ∧ w8.cell? ⟨q.x, 5, none⟩ = some (.pointer q.lp) ∧ w8.cell? ⟨m, 1, none⟩ = some (.int .u64 b) ∧ w8.cell? ⟨m, 2, none⟩ = some (.int .u64 s) := ⟨hyp ▸ (hs8.ndCell 1 rfl).1.2.1, (hs8.ndCell 1 rfl).1.2.2.2.2.2.1, (hs8.msCell 9 rfl).2.1, (hs8.msCell 9 rfl).2.2.1⟩
           have hST := run_rowStoreB (P := Tryz.prog) 80 w8.heap.size #[.int .u64 old.slot, .int .u64 old.ballot, .slice ao8 old.val.length c8] 80 _ (heap_alloc_new w8 (.cells #[.int .u64 0, .int .u64 0, .slice none 0 0] 80)) (by kernel_rfl) rfl (by kernel_rfl)
           rw [setRow_alloc] at hST
           have hs9 := hs8.newBlk #[.int .u64 old.slot, .int .u64 old.ballot, .slice ao8 old.val.length c8] 80
           have hS9 : (w8.alloc (.cells #[.int .u64 old.slot, .int .u64 old.ballot, .slice ao8 old.val.length c8] 80)).cell? ⟨q.x, 1, none⟩ = some (.slice q.po x.ps.length q.pc) ∧ (w8.alloc (.cells #[.int .u64 old.slot, .int .u64 old.ballot, .slice ao8 old.val.length c8] 80)).cell? ⟨q.x, 5, none⟩ = some (.pointer q.lp) ∧ (w8.alloc (.cells #[.int .u64 old.slot, .int .u64 old.ballot, .slice ao8 old.val.length c8] 80)).cell? ⟨m, 1, none⟩ = some (.int .u64 b) ∧ (w8.alloc (.cells #[.int .u64 old.slot, .int .u64 old.ballot, .slice ao8 old.val.length c8] 80)).cell? ⟨m, 2, none⟩ = some (.int .u64 s) := ⟨hyp ▸ (hs9.ndCell 2 rfl).1.2.1, (hs9.ndCell 2 rfl).1.2.2.2.2.2.1, (hs9.msCell 10 rfl).2.1, (hs9.msCell 10 rfl).2.2.1⟩
           have HS9 := Lib.hid (SepW.mid (pre := [_, _, _, _, _, _, _, _, _]) hs9)
           have HOld := Lib.hid hold
           clear hs8 hs9 hcr hyp hold)
        | (go_at_call 95; (with_reducible refine HV2.out.mono ?_); rintro e w8 ⟨y, f2, r, ao8, c8, rfl, hs8, hcr⟩
           have hyp := hcr.same.1
           have HCr := Lib.hid hcr
           generalize hold : r.getD ⟨0, 0, []⟩ = old at *
           have hS8 : w8.cell? ⟨q.x, 1, none⟩ = some (.slice q.po x.ps.length q.pc) ∧ w8.cell? ⟨q.x, 5, none⟩ = some (.pointer q.lp) ∧ w8.cell? ⟨m, 1, none⟩ = some (.int .u64 b) ∧ w8.cell? ⟨m, 2, none⟩ = some (.int .u64 s) := ⟨hyp ▸ (hs8.ndCell 1 rfl).1.2.1, (hs8.ndCell 1 rfl).1.2.2.2.2.2.1, (hs8.msCell 10 rfl).2.1, (hs8.msCell 10 rfl).2.2.1⟩
           have hST := run_rowStoreB (P := Tryz.prog) 80 W0.heap.size #[.int .u64 old.slot, .int .u64 old.ballot, .slice ao8 old.val.length c8] 80 _ (hs8.get 9 rfl : w8.heap[W0.heap.size]? = some (.cells #[.int .u64 0, .int .u64 0, .slice none 0 0] 80 (0, 0))) (by kernel_rfl) rfl (by kernel_rfl)
           have hs9 := hs8.rowBlk 9 #[.int .u64 old.slot, .int .u64 old.ballot, .slice ao8 old.val.length c8] rfl
           have hs9' : SepW W (w8.setRow W0.heap.size #[.int .u64 old.slot, .int .u64 old.ballot, .slice ao8 old.val.length c8]) (obRow (.slice ao8 old.val.length c8) 5 1 old.val.length (u8s old.val) :: ndOs q f2 y (obBlk W0.heap.size (.cells #[.int .u64 old.slot, .int .u64 old.ballot, .slice ao8 old.val.length c8] 80) :: obBlk m (.cells (msC k b s o bv) 42) :: os)) := hs9
           have hS9 : (w8.setRow W0.heap.size #[.int .u64 old.slot, .int .u64 old.ballot, .slice ao8 old.val.length c8]).cell? ⟨q.x, 1, none⟩ = some (.slice q.po x.ps.length q.pc) ∧ (w8.setRow W0.heap.size #[.int .u64 old.slot, .int .u64 old.ballot, .slice ao8 old.val.length c8]).cell? ⟨q.x, 5, none⟩ = some (.pointer q.lp) ∧ (w8.setRow W0.heap.size #[.int .u64 old.slot, .int .u64 old.ballot, .slice ao8 old.val.length c8]).cell? ⟨m, 1, none⟩ = some (.int .u64 b) ∧ (w8.setRow W0.heap.size #[.int .u64 old.slot, .int .u64 old.ballot, .slice ao8 old.val.length c8]).cell? ⟨m, 2, none⟩ = some (.int .u64 s) := ⟨hyp ▸ (hs9'.ndCell 1 rfl).1.2.1, (hs9'.ndCell 1 rfl).1.2.2.2.2.2.1, (hs9'.msCell 10 rfl).2.1, (hs9'.msCell 10 rfl).2.2.1⟩
           have HS9 := Lib.hid hs9'
           have HOld := Lib.hid hold
           clear hs8 hs9 hs9' hcr hyp hold))
    all_goals
      clear hMk
      go_wp2_with fail
      go_meet
      case rel => exact ⟨_, y, f2, r, ao8, c8, rfl, rfl, HCr.out, by rw [HOld.out]; exact HS9.out⟩
  case rest =>
    obtain ⟨V, y, f2, r, ao, c, rfl, rfl, hcr, hs⟩ := hcut
    clear H
    have HC := Lib.hid hs
    have HCr := Lib.hid hcr
    clear hs hcr
    cases r with
    | none =>
      simp only [Option.isSome_none]
      go_wp2_with fail
      go_ret
      exact ⟨y, [], ⟨y, none, HCr.out, rfl, rfl⟩, RetH.nothing (SepW.dropB (pre := [_, _, _, _, _, _, _, _]) (l := [_, _]) HC.out.tail)⟩
    | some v =>
      simp only [Option.isSome_some, Option.getD_some] at HC ⊢
      obtain ⟨g, hop⟩ := HCr.out.same.2.2.2.2.2.2.2 v rfl
      have hsm := HOps.out v g hop
      have hrm := HR.out v g hop
      have hsame := HCr.out.same
      have hcb := HC.out.behind
      have v0 := (hcb.blk 9 rfl 0 (.int .u64 v.slot) rfl).1
      have v2 := (hcb.blk 9 rfl 2 (.slice ao v.val.length c) rfl).1
      have HL := Lib.hid (nd_learn hcb (slot := v.slot) (bv := .slice ao v.val.length c) (xs := v.val) (by rw [hsm.2.1]; exact hsm.1) (Held.row 0 rfl) hsm.2.2.2.1 hrm.1 ⟨by rw [hsame.2.2.2.1]; exact hrm.2.free, by rw [hsame.2.2.2.1, hsame.2.2.2.2.1]; exact hrm.2.fit, by rw [hsame.2.2.2.2.1]; exact hrm.2.waits, by rw [hsame.2.2.2.1]; exact hrm.2.few, by rw [hsame.2.2.2.1]; exact hrm.2.e⟩ (by rw [hsame.2.1]; exact HE.out) (by rw [hsame.2.2.1]; exact hn))
      clear hop hsm hrm hcb HC
      have HSame := Lib.hid hsame
      clear hsame
      go_wp2_with fail
      refine HL.out.mono ?_
      rintro e w2 ⟨rfl, f3, nx, hs2⟩
      clear HL v0 v2
      have hzp : (learnN y v.slot v.val nx).ps = x.ps := (learnN_ps ..).trans HSame.out.1
      have HF : Hid (AcceptedR x t b s (learnN y v.slot v.val nx) (allO x.ps 12 0 v.slot v.val)) := Lib.hid ⟨y, some v, HCr.out, nx, rfl, rfl⟩
      generalize learnN y v.slot v.val nx = z at *
      have HZp := Lib.hid hzp
      have HS2 := Lib.hid hs2
      have v0 := (hs2.blk 9 rfl 0 (.int .u64 v.slot) rfl).1
      have v2 := (hs2.blk 9 rfl 2 (.slice ao v.val.length c) rfl).1
      have c1 := (hs2.ndCell 0 rfl).1.2.1
      have HA := Lib.hid (all_any (hs2.drew.row 7 rfl) (by rw [hzp]; omega) 12 0 v.slot ao v.val.length c)
      clear hs2 hzp
      go_wp2_with fail
      go_region_held3 (fun w' => w'.cell? ⟨V, 0, none⟩ = some (.int .u64 v.slot) ∧ w'.cell? ⟨V, 2, none⟩ = some (.slice ao v.val.length c) ∧ w'.cell? ⟨q.x, 1, none⟩ = some (.slice q.po z.ps.length q.pc)) (first | with_reducible exact hS9 | go_keep)
        (first
          | (go_at_call 36; (with_reducible refine HA.out.mono ?_); rintro e w6 ⟨ao6, c6, rfl, ho6, hb6⟩
             have hs6 := HS2.out.drew.step hb6
             have hS9 : w6.cell? ⟨V, 0, none⟩ = some (.int .u64 v.slot) ∧ w6.cell? ⟨V, 2, none⟩ = some (.slice ao v.val.length c) ∧ w6.cell? ⟨q.x, 1, none⟩ = some (.slice q.po z.ps.length q.pc) := ⟨(hs6.blk 9 rfl 0 (.int .u64 v.slot) rfl).1, (hs6.blk 9 rfl 2 (.slice ao v.val.length c) rfl).1, (hs6.ndCell 0 rfl).1.2.1⟩
             have HO6 := Lib.hid ho6
             have HB6 := Lib.hid hb6
             clear ho6 hb6 hs6))
      all_goals
        go_wp2_with fail
        go_ret
        refine ⟨z, _, HF.out, ?_⟩
        rw [← HZp.out]
        exact RetH.all1 (SepW.dropB (pre := [_, _, _, _, _, _, _, _, _]) (l := [_, _]) HS2.out.ahead.drew.rowBod) HO6.out HB6.out
end
end Go.Proofs.YtgmdedkingampaaGreat
