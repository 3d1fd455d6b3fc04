/-
  Package leader: a leader among other things of the call's own.
-/
import Derived.Test.YtgmdedkingampaaGreatLeaC
import Derived.Test.YtgmdedkingampaaGreatAcc7
import Derived.Test.YtgmdedkingampaaGreatKeyU
import Derived.Test.YtgmdedkingampaaGreatSepB
set_option linter.unusedVariables false
set_option linter.unusedSimpArgs false
namespace Go.Proofs.YtgmdedkingampaaGreat
open Go.ChangeShapes Go.WideShapes Go.ChangeAt Go.RowKit Go.Maps
set_option maxRecDepth 100000

theorem LeaR.mono {D : Nat → Prop} {w : World} {b0 N M : Nat} {ko lo : Option Nat} {A : LS} (h : LeaR w D b0 ko lo N A) (hM : N ≤ M) : LeaR w D b0 ko lo M A :=
  ⟨h.cells, h.lt, h.dr, h.ne, h.kn.keep (Keep.refl (fun _ => False) w) (fun _ hk _ => hk.elim) (fun _ _ hk => hk) (fun _ h => h) (fun _ _ h => h) hM, h.op.keep (Keep.refl (fun _ => False) w) (fun _ hk _ => hk.elim) (fun _ _ hk => hk) (fun _ h => h) (fun _ _ h => h) hM, h.many, h.num, h.live⟩
theorem Keep.put {D : Nat → Prop} {b : Nat} {w w2 : World} (h : Keep (fun k => k = b) w w2) (hb : D b) : Moved D (fun k => D k ∨ (w.heap.size ≤ k ∧ k < w2.heap.size)) w w2 :=
  ⟨h.mono (fun k _ e => by subst e; exact hb), fun k hd => Or.inl hd, fun k hd => hd.elim Or.inl (fun h => Or.inr h.1)⟩
theorem voteVal (x y z : Value) (w : World) : (Instr.field 80 (.agg #[x, y, z]) 2).run Tryz.prog w = .ok z w := by kernel_rfl
/-- A vote is known too far ahead. -/
def farL (A : LS) : Prop := ∃ s, (A.kn s).isSome = true ∧ A.first ≤ s ∧ (s = 18446744073709551615 ∨ 4096 ≤ s - A.first)
/-- Where the slots that are proposed end. -/
def IsEnd (A : LS) (en : Int) : Prop := (A.first ≤ en ∧ U1 en) ∧ (∀ s, (A.kn s).isSome = true → A.first ≤ s → s < en) ∧ (en = A.first ∨ ∃ s, (A.kn s).isSome = true ∧ A.first ≤ s ∧ en = s + 1)
def leadP (A : LS) (en : Int) : Int → Option (Vt × (Nat → Bool)) := fun a => if A.first ≤ a ∧ a < en then some (⟨a, A.ballot, (kOr A a).val⟩, fun _ => false) else A.op a
def leadQ (A : LS) (en : Int) : LS := ⟨A.many, A.stage, A.ballot, A.first, A.next, A.prom, A.kn, leadP A en⟩
def leadL (A : LS) (en : Int) : LS := ⟨A.many, 2, A.ballot, A.first, en, A.prom, A.kn, leadP A en⟩
theorem leadQ_zero (A : LS) : leadQ A A.first = A := by
  have : leadP A A.first = A.op := by
    funext a; unfold leadP; rw [if_neg (by omega)]
  unfold leadQ; rw [this]
theorem leadQ_succ (A : LS) {m : Int} (hm : A.first ≤ m) : leadQ A (m + 1) = opP (leadQ A m) ⟨m, A.ballot, (kOr A m).val⟩ (fun _ => false) := by
  have : leadP A (m + 1) = fun a => if a = m then some (⟨m, A.ballot, (kOr A m).val⟩, fun _ => false) else leadP A m a := by
    funext a; unfold leadP
    by_cases e : a = m
    · subst e; rw [if_pos (by omega), if_pos rfl]
    · rw [if_neg e]
      by_cases h : A.first ≤ a ∧ a < m
      · rw [if_pos h, if_pos (by omega)]
      · rw [if_neg h, if_neg (by omega)]
  unfold leadQ opP; rw [this]
/-- What has been seen of the known votes. -/
def EndR (A : LS) (left : Lit → Bool) (e : Int) : Prop := (A.first ≤ e ∧ U1 e) ∧ (∀ a : Int, (A.kn a).isSome = true → left (.int .u64 a) = false → A.first ≤ a → a < e ∧ a ≠ 18446744073709551615 ∧ a - A.first < 4096) ∧
  (e = A.first ∨ ∃ s, (A.kn s).isSome = true ∧ A.first ≤ s ∧ e = s + 1) ∧ ∀ a : Int, U1 a → left (.int .u64 a) = true → (A.kn a).isSome = true
theorem EndR.skip {A : LS} {left : Lit → Bool} {e x : Int} (h : EndR A left e) (hx : x < A.first) : EndR A (fun z => left z && !z.sameKey (.int .u64 x)) e := by
  refine ⟨h.1, fun a ha hl hf => h.2.1 a ha ?_ hf, h.2.2.1, fun a ha hl => h.2.2.2 a ha ?_⟩
  · have hne : a ≠ x := by omega
    simpa [Lit.sameKey, hne] using hl
  · simp at hl; exact hl.1
theorem EndR.take {A : LS} {left : Lit → Bool} {e x : Int} (h : EndR A left e) (ux : U1 x) (hk : left (.int .u64 x) = true) (hx : A.first ≤ x) (hm : x ≠ 18446744073709551615) (hf : x - A.first < 4096) : EndR A (fun z => left z && !z.sameKey (.int .u64 x)) (max e (x + 1)) := by
  have hs := h.2.2.2 x ux hk
  obtain ⟨u1, u2⟩ := ux
  obtain ⟨⟨g0, g1, g2⟩, g3, g4, g5⟩ := h
  refine ⟨⟨by omega, by omega, by omega⟩, fun a ha hl hf' => ?_, ?_, fun a ha hl => g5 a ha ?_⟩
  · by_cases e1 : a = x
    · subst e1; exact ⟨by omega, hm, hf⟩
    · have := g3 a ha (by simpa [Lit.sameKey, e1] using hl) hf'
      exact ⟨by omega, this.2⟩
  · by_cases hle : e ≤ x + 1
    · right; exact ⟨x, hs, hx, by omega⟩
    · rcases g4 with g4 | ⟨s, q1, q2, q3⟩
      · omega
      · right; exact ⟨s, q1, q2, by omega⟩
  · simp at hl; exact hl.1
theorem EndR.done {A : LS} {left : Lit → Bool} {e : Int} (h : EndR A left e) (hl : ∀ kl, left kl = false) : IsEnd A e ∧ ¬ farL A := by
  refine ⟨⟨h.1, fun s hs hf => (h.2.1 s hs (hl _) hf).1, h.2.2.1⟩, ?_⟩
  rintro ⟨s, hs, hf, hx⟩
  have := h.2.1 s hs (hl _) hf
  omega
theorem IsEnd.unique {A : LS} {e e' : Int} (h : IsEnd A e) (h' : IsEnd A e') : e = e' := by
  obtain ⟨⟨a1, _⟩, a2, a3⟩ := h
  obtain ⟨⟨b1, _⟩, b2, b3⟩ := h'
  rcases a3 with a3 | ⟨s, s1, s2, s3⟩
  · rcases b3 with b3 | ⟨t, t1, t2, t3⟩
    · omega
    · have := a2 t t1 t2; omega
  · have := b2 s s1 s2
    rcases b3 with b3 | ⟨t, t1, t2, t3⟩
    · omega
    · have := a2 t t1 t2; omega
/-- What 'lead' comes to. -/
def RetLd (D : Nat → Prop) (b0 bk bl N : Nat) (A : LS) (w : World) (e : Ending) (w' : World) : Prop :=
  (farL A ∧ e = .returned (.tuple #[.slice none 0 0, .bool false]) ∧ LeaR w' D b0 (some bk) none N (stopL A) ∧ Keep D w w') ∨
  ∃ en D' w1 ks ao c vs, ¬ farL A ∧ IsEnd A en ∧ LeaR w1 D' b0 (some bk) (some bl) (N + 4097) (leadL A en) ∧ Moved D D' w w1 ∧ IsOKeys (leadP A en) ks ∧ e = .returned (.tuple #[.slice ao (opL (leadP A en) ks).length c, .bool true]) ∧
    SepW w1 w' [obVts (.slice ao (opL (leadP A en) ks).length c) 80 vs (opL (leadP A en) ks)]
set_option maxHeartbeats 4000000 in
theorem lead_any {D : Nat → Prop} {w : World} {b0 bk bl N : Nat} {A : LS} (h : LeaR w D b0 (some bk) (some bl) N A) (hsg : A.stage = 1) (hN : N < 900000) {K : List Int} (hK : K.length < 900000) (hKs : ∀ a, (A.op a).isSome = true → a ∈ K) :
    Calls Tryz.prog 124 #[.pointer (some ⟨b0, 0, none⟩)] w (RetLd D b0 bk bl N A w) := by
  obtain ⟨⟨c0, c1, c2, c3, c4, c5, c6, c7⟩, _⟩ := h.cell
  obtain ⟨f0, ⟨D0, hown, hm, hf⟩, hv, hx⟩ := h.kn.some_ bk rfl
  have hU := h.num.2.1
  have hst : EndR A (has D0) A.first := by
    refine ⟨⟨Int.le_refl _, hU⟩, fun a ha hl hf' => ?_, Or.inl rfl, fun a ha hl => ?_⟩
    · exfalso
      obtain ⟨v, hva⟩ := Option.isSome_iff_exists.1 ha
      have := hv a (h.kn.small a v hva).1
      rw [hva] at this
      obtain ⟨sv, e1, _⟩ := this
      rw [(hf (.int .u64 a)).1, e1] at hl
      cases hl
    · rw [(hf (.int .u64 a)).1] at hl
      have := hv a ha
      cases hk : A.kn a with
      | none => rw [hk] at this; rw [show f0 (.int .u64 a) = none from this] at hl; cases hl
      | some v => rfl
  have H := Lib.hid h
  have HSt := Lib.hid hst
  have HSg := Lib.hid hsg
  have HKs := Lib.hid hKs
  have hb0 := LR_lt h b0 (Or.inl rfl)
  have hbk := LR_lt h bk (Or.inr (Or.inl rfl))
  clear h hst hsg hKs hv hx hf hm
  go_enter Tryz.func124, Tryz.ntmps124
  go_wp2_with (first
    | (at_range; refine wpList_range_own _ rfl _ 123 rfl 39 80 uKeyed Tryz.underlying123 heldR bk N D0 rfl hown ?_
       intro w0 hrg0 hg0 hs0)
    | fail)
  have HG0 := Lib.hid hg0
  clear hg0 hs0
  (try go_frame)
  go_loopw [4, 5] (fun v4 _ wr => ∃ (e : Int) (left : Lit → Bool) (cnt : Nat), v4 = .int .u64 e ∧ wr.ranges Tryz.prog 39 heldR bk w.heap.size N D0 left cnt ∧ EndR A left e ∧ Keep (fun k => w.heap.size ≤ k) w wr)
    (fun _ _ wr => wr.rangeLeft bk w.heap.size)
  case atStart => exact ⟨_, _, _, rfl, hrg0, HSt.out, Keep.grown HG0.out (fun k hk => by cases hk)⟩
  case round =>
    clear HSt
    obtain ⟨e, left, cnt, rfl, hrg, hE, hkp⟩ := hrel
    have HE := Lib.hid hE
    have HKp := Lib.hid hkp
    have hbw : Below w.heap.size w wr := hkp.below (Nat.le_refl _) (fun k hk => hk)
    have HR := Lib.hid (H.out.below hbw (Nat.le_refl _))
    have HBw := Lib.hid hbw
    clear hE hkp hbw
    go_wp2_with (first
      | (at_next; refine wpList_next_ranges _ rfl _ rfl 39 uKeyed heldR (Value.int .u64) id (fun key kl hk => by obtain ⟨x, hx, _⟩ := Maps.keyOf_int_inv Tryz.underlying39 hk; exact ⟨x, hx⟩) (fun v _ _ => ⟨v, rfl⟩) bk w.heap.size N _ _ _ rfl hrg ?_ ?_)
      | fail)
    · intro hc0 hl0
      have HEd := Lib.hid (HE.out.done hl0)
      clear hl0
      have HR0 := Lib.hid HR.out
      rw [← leadQ_zero A] at HR0
      obtain ⟨⟨⟨hfe, ue⟩, _, hen⟩, hnf⟩ := id HEd.out
      have he4 : e - A.first ≤ 4096 := by
        rcases hen with hen | ⟨s, s1, s2, s3⟩
        · omega
        · by_cases h4 : 4096 ≤ s - A.first
          · exact absurd ⟨s, s1, s2, Or.inr h4⟩ hnf
          · omega
      obtain ⟨⟨_, _, _, d3, _, _, _, _⟩, _⟩ := HR.out.cell
      obtain ⟨f1, f2⟩ := hU
      obtain ⟨e1, e2⟩ := ue
      clear hrg hc0 hen hnf c0 c1 c2 c3 c4 c5 c6 c7 hown
      go_wp2_with fail
      go_loopw [6] (fun v6 wr2 => ∃ (k : Nat) (D1 : Nat → Prop), v6 = .int .u64 (A.first + k) ∧ A.first + k ≤ e ∧ LeaR wr2 D1 b0 (some bk) (some bl) (N + k) (leadQ A (A.first + k)) ∧ Moved D D1 w wr2) (fun v6 _ => (e - intOf v6).toNat)
      case atStart => exact ⟨0, D, by simp, by omega, by simpa using HR0.out, Moved.of (Below.keep0 D HBw.out)⟩
      case round =>
        clear HR0 d3
        obtain ⟨k, D1, rfl, hke, hR, hMv⟩ := hrel
        obtain ⟨m, hm⟩ : ∃ m, m = A.first + (k : Int) := ⟨_, rfl⟩
        rw [← hm] at hR hke ⊢
        have HRk := Lib.hid hR
        have HMv := Lib.hid hMv
        have hmf : A.first ≤ m := by omega
        have um : U1 m := ⟨by omega, by omega⟩
        have hk4 : k ≤ 4096 := by omega
        have Hm := Lib.hid hm
        clear hR hMv hm
        obtain ⟨⟨_, d1, d2', d3', d4', _, d6, d7⟩, hz⟩ := HRk.out.cell
        have d2 : wr.cell? ⟨b0, 2, none⟩ = some (.int .u64 A.ballot) := d2'
        have d3 : wr.cell? ⟨b0, 3, none⟩ = some (.int .u64 A.first) := d3'
        have d4 : wr.cell? ⟨b0, 4, none⟩ = some (.int .u64 A.next) := d4'
        clear d2' d3' d4'
        have z1 := hz 1
        have z4 := hz 4
        clear hz
        by_cases hlt : m < e
        · obtain ⟨lo, lc, _, hlk0, hsl, hvl, hv8, hvb, hvo, hlc1, hlc2⟩ := HRk.out.lookK (slot := m) um
          obtain ⟨f, hf, hvals, hvx⟩ := HRk.out.op.some_ bl rfl
          have hlk := hlk0 wr.drew rfl
          have hkq : kOr (leadQ A m) m = kOr A m := rfl
          rw [hkq] at hlk hsl hvl hv8 hvb hvo hlc1
          obtain ⟨w2, hrun, hm2, hg2⟩ := (hf.same (show wr.drew.heap[bl]? = wr.heap[bl]? from rfl)).store uKeyed Tryz.underlying124 (by unfold maxLen; omega) (u_key um) (val := .agg #[.int .u64 m, .int .u64 A.ballot, .slice lo (kOr A m).val.length lc, .int .u32 0]) (by trivial)
          have hne := HRk.out.ne.2.1 bl rfl
          have hne2 := HRk.out.ne.2.2 bk rfl
          have q2 := hg2.cell (a := ⟨b0, 2, none⟩) (show wr.drew.cell? ⟨b0, 2, none⟩ = _ from d2) (by simp; omega)
          have q6 := hg2.cell (a := ⟨b0, 6, none⟩) (show wr.drew.cell? ⟨b0, 6, none⟩ = _ from d6) (by simp; omega)
          have q7 := hg2.cell (a := ⟨b0, 7, none⟩) (show wr.drew.cell? ⟨b0, 7, none⟩ = _ from d7) (by simp; omega)
          have hw1 : IntKind.u64.wrap (m + 1) = m + 1 := IntWalk.u64_in _ (by omega)
          obtain ⟨hA, hkA⟩ := HRk.out.putO (wm := wr.drew) (v := ⟨m, A.ballot, (kOr A m).val⟩) (g := fun _ => false) (Below.refl _ _).drew (hsl.below (Below.refl _ _).drew (Nat.le_refl _)) (fun k hk => Or.inl (hvo k hk)) (by simpa [msk_none] using hm2) hg2 hvals hvx um HRk.out.num.1 hv8 hvl
          rw [← leadQ_succ A hmf] at hA
          have HA := Lib.hid hA
          have HkA := Lib.hid hkA
          have hb7 := HRk.out.dr bl (Or.inr (Or.inr rfl))
          clear hA hkA hm2 hg2 hvals hvx hf hsl hlk0 hvo hv8 hvb hkq
          go_wp2_with fail
          have hfld : ∀ w : World, (Instr.field 80 (.agg #[.int .u64 (kOr A m).slot, .int .u64 (kOr A m).ballot, .slice lo (kOr A m).val.length lc]) 2).run Tryz.prog w = .ok (.slice lo (kOr A m).val.length lc) w := fun w => voteVal _ _ _ w
          go_region_held3 (fun w' => w'.cell? ⟨b0, 2, none⟩ = some (.int .u64 A.ballot) ∧ w'.cell? ⟨b0, 6, none⟩ = some (.map (some bk)) ∧ w'.cell? ⟨b0, 7, none⟩ = some (.map (some bl))) (first | go_keep)
            (first | fail)
          clear q2 q6 q7 hrun hfld
          go_wp2_with fail
          go_roundw
          case rel => exact ⟨k + 1, _, by rw [Hm.out]; go_num, by have := Hm.out; omega, by rw [Hm.out] at HA; have := HA.out; rwa [Int.add_assoc] at this, HMv.out.trans (HkA.out.put hb7)⟩
          case measure => simp [intOf]; omega
        · have hme : m = e := by omega
          have hltd : decide (m < e) = false := decide_eq_false hlt
          have HRe := Lib.hid HRk.out
          rw [hme] at HRe
          have HMe := Lib.hid hme
          clear hme hlt
          have hk2 : Keep (fun k => k = b0) wr ((wr.setCell ⟨b0, 1, none⟩ (.int .i64 2)).setCell ⟨b0, 4, none⟩ (.int .u64 e)) :=
            ((Keep.refl (fun k => k = b0) wr).setCell (p := ⟨b0, 1, none⟩) (Or.inl rfl) _).setCell (p := ⟨b0, 4, none⟩) (Or.inl rfl) _
          have g1 := heap_setCell_same wr b0 1 _ _ (.int .i64 2) HRe.out.cells
          have g2 := heap_setCell_same _ b0 4 _ _ (.int .u64 e) g1
          have hR8 := (HRe.out.turn (A' := leadL A e) hk2 (by simpa [leadL, leadQ] using g2) rfl rfl HRe.out.many ⟨HRe.out.num.1, HRe.out.num.2.1, ⟨e1, e2⟩⟩ (fun _ => by show A.stage ≠ 0; have := HSg.out; omega)).mono (M := N + 4097) (by omega)
          have HR8 := Lib.hid hR8
          have HK8 := Lib.hid hk2
          have hKl : (K ++ (List.range 4097).map (fun (k : Nat) => A.first + (k : Int))).length < 1000000 := by simp; omega
          have HOp := Lib.hid (lopen_any hR8 (by omega) hKl (fun a ha => by
            unfold leadL leadP at ha
            simp only at ha
            by_cases hin : A.first ≤ a ∧ a < e
            · refine List.mem_append_right _ (List.mem_map.2 ⟨(a - A.first).toNat, List.mem_range.2 (by omega), by omega⟩)
            · rw [if_neg hin] at ha
              exact List.mem_append_left _ (HKs.out a ha)))
          clear hk2 g1 g2 hR8 hKl
          go_wp2_with fail
          refine HOp.out.mono ?_
          rintro e9 w9 ⟨ks, ao, c, vs, hks, rfl, hs9⟩
          have HKy := Lib.hid hks
          have HS9 := Lib.hid hs9
          clear hks hs9
          go_wp2_with fail
          refine bodyPost_ret (v := .tuple #[.slice ao (opL (leadP A e) ks).length c, .bool true]) (by simp [results, Tryz.results124, go_sem, leadL]) rfl ?_
          exact Or.inr ⟨e, D1, _, ks, ao, c, vs, HEd.out.2, HEd.out.1, HR8.out, HMv.out.trans (Moved.of (HK8.out.mono (fun k _ e => by subst e; exact HRk.out.dr _ (Or.inl rfl)))), HKy.out, rfl, HS9.out⟩
    · intro x c kl yd yp w2 cnt2 hkey hlk hv hat hrg2 hlt hg2 hs2 hen
      obtain ⟨x', ex, rfl, hwf⟩ := Maps.keyOf_int_inv Tryz.underlying39 hkey
      obtain rfl : x = x' := by cases ex; rfl
      have ux : U1 x := by simp [Lit.wf, IntKind.min, IntKind.max, IntKind.signed, IntKind.bits] at hwf; exact ⟨hwf.1, by omega⟩
      have hkp2 : Keep (fun k => w.heap.size ≤ k) w w2 := HKp.out.trans (Keep.grown hg2 (fun k hk => by cases hk; exact Nat.le_refl _))
      have hb2 : Below w.heap.size w w2 := hkp2.below (Nat.le_refl _) (fun k hk => hk)
      have hR2 := H.out.below hb2 (Nat.le_refl _)
      obtain ⟨⟨_, _, _, d3, _, _, _, _⟩, _⟩ := hR2.cell
      have HR2 := Lib.hid hR2
      have HB2 := Lib.hid hb2
      have HKp2 := Lib.hid hkp2
      have HLk := Lib.hid hlk
      clear hR2 hb2 hat hlk hg2 hs2 hkey hwf hkp2
      have HRg := Lib.hid hrg2
      obtain ⟨x0, x1⟩ := id ux
      by_cases hxf : x < A.first
      · go_wp2_with fail
        go_roundw
        case rel => exact ⟨e, _, _, rfl, hrg2, HE.out.skip hxf, HKp2.out⟩
        case measure => rw [hrg2.left_eq, hrg.left_eq]; omega
      · have hxd : decide (x < A.first) = false := decide_eq_false hxf
        obtain ⟨f1, f2⟩ := hU
        have hw1 : IntKind.u64.wrap (x - A.first) = x - A.first := IntWalk.u64_in _ (by omega)
        by_cases hxm : x = 18446744073709551615
        · have hxe : (x == 18446744073709551615) = true := by rw [beq_iff_eq]; exact hxm
          have HFar : Hid (farL A) := Lib.hid ⟨x, HE.out.2.2.2 x ux HLk.out, by omega, Or.inl hxm⟩
          have HStop := Lib.hid (lstop_any HR2.out)
          clear hxm
          go_wp2_with fail
          refine HStop.out.mono ?_
          rintro e3 w3 ⟨rfl, hA3, hk3⟩
          have HA3 := Lib.hid hA3
          have HK3 := Lib.hid hk3
          clear hA3 hk3
          go_wp2_with fail
          refine bodyPost_ret (v := .tuple #[.slice none 0 0, .bool false]) (by simp [results, Tryz.results124, go_sem]) rfl ?_
          exact Or.inl ⟨HFar.out, rfl, HA3.out, (Below.keep0 D HB2.out).trans (HK3.out.mono (fun k _ e => by subst e; exact H.out.dr _ (Or.inl rfl)))⟩
        · have hxe : (x == 18446744073709551615) = false := by rw [beq_eq_false_iff_ne]; exact hxm
          by_cases hx4 : 4096 ≤ x - A.first
          · have HFar : Hid (farL A) := Lib.hid ⟨x, HE.out.2.2.2 x ux HLk.out, by omega, Or.inr hx4⟩
            have HStop := Lib.hid (lstop_any HR2.out)
            go_wp2_with fail
            refine HStop.out.mono ?_
            rintro e3 w3 ⟨rfl, hA3, hk3⟩
            have HA3 := Lib.hid hA3
            have HK3 := Lib.hid hk3
            clear hA3 hk3
            go_wp2_with fail
            refine bodyPost_ret (v := .tuple #[.slice none 0 0, .bool false]) (by simp [results, Tryz.results124, go_sem]) rfl ?_
            exact Or.inl ⟨HFar.out, rfl, HA3.out, (Below.keep0 D HB2.out).trans (HK3.out.mono (fun k _ e => by subst e; exact H.out.dr _ (Or.inl rfl)))⟩
          · have hx4d : decide (4096 ≤ x - A.first) = false := decide_eq_false hx4
            have hw2 : IntKind.u64.wrap (x + 1) = x + 1 := IntWalk.u64_in _ (by omega)
            have HXm := Lib.hid hxm
            clear hxm
            go_wp2_with fail
            go_roundw
            case rel => exact ⟨max e (x + 1), _, _, rfl, hrg2, HE.out.take ux HLk.out (by omega) HXm.out (by omega), HKp2.out⟩
            case measure => rw [hrg2.left_eq, hrg.left_eq]; omega
end Go.Proofs.YtgmdedkingampaaGreat

namespace Go.Proofs.YtgmdedkingampaaGreat
open Go.ChangeShapes Go.WideShapes Go.ChangeAt Go.RowKit Go.Maps
set_option maxRecDepth 100000

/-- A vote that is told plays a part if none of its ballot or a greater one is known for its slot. -/
def newer (A : LS) (v : Vt) : Bool := match A.kn v.slot with | none => true | some o => decide (o.ballot < v.ballot)
def addV (A : LS) (v : Vt) : LS := if newer A v = true then knP A v else A
def promL (A : LS) (n : Nat) (low : Int) : LS := ⟨A.many, A.stage, A.ballot, max A.first low, A.next, addK A.prom n, A.kn, A.op⟩
def promV (A : LS) (n : Nat) (low : Int) (vs : List Vt) : LS := vs.foldl addV (promL A n low)
def VtsOk (vs : List Vt) : Prop := ∀ v ∈ vs, U1 v.slot ∧ U1 v.ballot ∧ U8 v.val ∧ v.val.length ≤ 1000000
theorem promV_succ {A : LS} {n : Nat} {low : Int} {vs : List Vt} {k : Nat} {s : Vt} (h : vs[k]? = some s) : promV A n low (vs.take (k + 1)) = addV (promV A n low (vs.take k)) s := by
  obtain ⟨h1, h2⟩ := List.getElem?_eq_some_iff.1 h
  unfold promV
  rw [List.take_succ_eq_append_getElem h1, h2, List.foldl_append]
  rfl
theorem addV_keeps (A : LS) (v : Vt) : (addV A v).many = A.many ∧ (addV A v).stage = A.stage ∧ (addV A v).ballot = A.ballot ∧ (addV A v).first = A.first ∧ (addV A v).next = A.next ∧ (addV A v).prom = A.prom ∧ (addV A v).op = A.op := by
  unfold addV
  split
  · exact ⟨rfl, rfl, rfl, rfl, rfl, rfl, rfl⟩
  · exact ⟨rfl, rfl, rfl, rfl, rfl, rfl, rfl⟩
theorem foldV_keeps (vs : List Vt) : ∀ A : LS, (vs.foldl addV A).many = A.many ∧ (vs.foldl addV A).stage = A.stage ∧ (vs.foldl addV A).ballot = A.ballot ∧ (vs.foldl addV A).first = A.first ∧ (vs.foldl addV A).next = A.next ∧ (vs.foldl addV A).prom = A.prom ∧ (vs.foldl addV A).op = A.op := by
  induction vs with
  | nil => intro A; exact ⟨rfl, rfl, rfl, rfl, rfl, rfl, rfl⟩
  | cons v vs ih =>
    intro A
    obtain ⟨h1, h2, h3, h4, h5, h6, h7⟩ := ih (addV A v)
    obtain ⟨g1, g2, g3, g4, g5, g6, g7⟩ := addV_keeps A v
    exact ⟨h1.trans g1, h2.trans g2, h3.trans g3, h4.trans g4, h5.trans g5, h6.trans g6, h7.trans g7⟩
theorem promV_prom (A : LS) (n : Nat) (low : Int) (vs : List Vt) : (promV A n low vs).prom = addK A.prom n := (foldV_keeps vs (promL A n low)).2.2.2.2.2.1
theorem promV_many (A : LS) (n : Nat) (low : Int) (vs : List Vt) : (promV A n low vs).many = A.many := (foldV_keeps vs (promL A n low)).1
theorem newer_none {A : LS} {s : Vt} (h : A.kn s.slot = none) : newer A s = true := by unfold newer; rw [h]
theorem newer_some {A : LS} {s o : Vt} (h : A.kn s.slot = some o) : newer A s = decide (o.ballot < s.ballot) := by unfold newer; rw [h]
def PsC (b0 bk : Nat) (wr : World) (s : Vt) (so : Option Addr) (sc : Nat) (wm : World) : Prop := wm.cell? ⟨b0, 6, none⟩ = some (.map (some bk)) ∧ wm.cell? ⟨wr.heap.size, 0, none⟩ = some (.int .u64 s.slot) ∧ wm.cell? ⟨wr.heap.size, 1, none⟩ = some (.int .u64 s.ballot) ∧ wm.cell? ⟨wr.heap.size, 2, none⟩ = some (.slice so s.val.length sc)
theorem promStep {D : Nat → Prop} {wr W1 : World} {b0 bk N : Nat} {lo : Option Nat} {A : LS} {s : Vt} {so : Option Addr} {sc : Nat} {f : Lit → Option Value} (hR : LeaR wr D b0 (some bk) lo N A) (hf : MapR wr Tryz.prog 39 bk N f) (us : U1 s.slot) (hN : N < 1000000) (hb : Below wr.heap.size wr W1)
    (hv : W1.heap[wr.heap.size]? = some (.cells #[.int .u64 s.slot, .int .u64 s.ballot, .slice so s.val.length sc] 80 (0, 0))) :
    ∀ wm, Below W1.heap.size W1 wm → PsC b0 bk wr s so sc wm ∧ ∀ vm, ∃ w2, (Instr.mapUpdate 123 (.map (some bk)) (.int .u64 s.slot) vm).run Tryz.prog wm = .ok () w2 ∧ MapR w2 Tryz.prog 39 bk (N + 1) (putF f (.int .u64 s.slot) vm) ∧ wm.grownBy w2 (some bk) ∧ PsC b0 bk wr s so sc w2 := by
  intro wm hbm
  have hbk := LR_lt hR bk (Or.inr (Or.inl rfl))
  have hne := hR.ne.1 bk rfl
  have hsz := (Array.getElem?_eq_some_iff.1 hv).1
  have hbx := hb.trans (hbm.mono hb.size)
  have hvm := (hbm.block wr.heap.size hsz).trans hv
  obtain ⟨⟨_, _, _, _, _, _, e6, _⟩, _⟩ := (hR.below hbx (Nat.le_refl _)).cell
  have c0 : wm.cell? ⟨wr.heap.size, 0, none⟩ = some (.int .u64 s.slot) := World.news_of_block hvm 0 _ rfl
  have c1 : wm.cell? ⟨wr.heap.size, 1, none⟩ = some (.int .u64 s.ballot) := World.news_of_block hvm 1 _ rfl
  have c2 : wm.cell? ⟨wr.heap.size, 2, none⟩ = some (.slice so s.val.length sc) := World.news_of_block hvm 2 _ rfl
  refine ⟨⟨e6, c0, c1, c2⟩, fun vm => ?_⟩
  obtain ⟨w2, g1, g2, g3⟩ := (hf.same (hbx.block bk hf.lt)).store uKeyed Tryz.underlying123 (by unfold maxLen; omega) (u_key us) (val := vm) (by trivial)
  exact ⟨w2, g1, g2, g3, g3.cell e6 (by simp; omega), g3.cell c0 (by simp; omega), g3.cell c1 (by simp; omega), g3.cell c2 (by simp; omega)⟩
theorem promV_stage (A : LS) (n : Nat) (low : Int) (vs : List Vt) : (promV A n low vs).stage = A.stage := (foldV_keeps vs (promL A n low)).2.1
theorem promV_op (A : LS) (n : Nat) (low : Int) (vs : List Vt) : (promV A n low vs).op = A.op := (foldV_keeps vs (promL A n low)).2.2.2.2.2.2
/-- What a promise that is noted comes to. -/
def RetPm (D : Nat → Prop) (b0 bk bl N : Nat) (A : LS) (w : World) (e : Ending) (w' : World) : Prop :=
  (¬ A.many / 2 < cnt 32 A.prom ∧ e = .returned (.tuple #[.slice none 0 0, .bool false]) ∧ ∃ D', LeaR w' D' b0 (some bk) (some bl) N A ∧ Moved D D' w w') ∨
  (A.many / 2 < cnt 32 A.prom ∧ ∃ D1 w1, LeaR w1 D1 b0 (some bk) (some bl) N A ∧ Moved D D1 w w1 ∧ RetLd D1 b0 bk bl N A w1 e w')
set_option maxHeartbeats 4000000 in
theorem lprom_ok {D : Nat → Prop} {w : World} {b0 bk bl N : Nat} {A : LS} (h : LeaR w D b0 (some bk) (some bl) N A) {n : Nat} {b low : Int} {v : Value} {hs : List Vt} (hyes : A.stage = 1 ∧ b = A.ballot ∧ 0 ≤ (n : Int) ∧ (n : Int) < A.many) (hp : A.prom n = false) (ul : U1 low)
    (hv : ∀ w', Keep D w w' → VtL w' v hs) (ho : VtsOk hs) (hN : N + hs.length < 900000) {K : List Int} (hK : K.length < 900000) (hKs : ∀ a, (A.op a).isSome = true → a ∈ K) :
    Calls Tryz.prog 91 #[.pointer (some ⟨b0, 0, none⟩), .int .i64 n, .int .u64 b, .int .u64 low, v] w (RetPm D b0 bk bl (N + hs.length) (promV A n low hs) w) := by
  have HI := Lib.hid (lis_any h 1 n b)
  have hd : decide (A.stage = 1 ∧ b = A.ballot ∧ 0 ≤ (n : Int) ∧ (n : Int) < A.many) = true := decide_eq_true hyes
  rw [hd] at HI
  have hm' := h.many
  have hn32 : n < 32 := by omega
  obtain ⟨⟨c0, c1, c2, c3, c4, c5, c6, c7⟩, hz⟩ := h.cell
  have z3 := hz 3
  have z5 := hz 5
  have hand := bit_of (f := A.prom) hn32
  rw [if_neg (by rw [hp]; simp)] at hand
  have hor := or_msk2 (f := A.prom) hn32
  obtain ⟨vo, vc, rfl, hvc, hvm, _⟩ := hv w (Keep.refl _ _)
  have H := Lib.hid h
  have HV := Lib.hid hv
  have HO := Lib.hid ho
  have HStg := Lib.hid hyes.1
  have HKs := Lib.hid hKs
  clear h hyes hd hp hz hv ho hKs
  generalize hx : msk 32 A.prom = x at *
  have HX := Lib.hid hx
  clear hx
  go_enter Tryz.func91, Tryz.ntmps91
  go_wp2_with fail
  refine HI.out.mono ?_
  rintro e w1 ⟨rfl, rfl⟩
  go_wp2_with fail
  go_region
  go_wp2_with fail
  have hk1 : Keep (fun k => k = b0) w (((w.setCell ⟨b0, 5, none⟩ (.int .u32 (msk 32 (addK A.prom n)))).setCell ⟨b0, 3, none⟩ (.int .u64 (max A.first low)))).drew :=
    (((Keep.refl (fun k => k = b0) w).setCell (p := ⟨b0, 5, none⟩) (Or.inl rfl) _).setCell (p := ⟨b0, 3, none⟩) (Or.inl rfl) _).drew
  have e1 := heap_setCell_same w b0 5 _ _ (.int .u32 (msk 32 (addK A.prom n))) H.out.cells
  have e2 := heap_setCell_same _ b0 3 _ _ (.int .u64 (max A.first low)) e1
  have hR1 := H.out.turn (A' := promL A n low) hk1 (by unfold promL; have e3 := e2; simp at e3; exact e3) rfl rfl H.out.many ⟨H.out.num.1, by have h1 := H.out.num.2.1; obtain ⟨h1, h2⟩ := h1; obtain ⟨h3, h4⟩ := ul; exact ⟨by show 0 ≤ max A.first low; omega, by show max A.first low ≤ _; omega⟩, H.out.num.2.2⟩ (fun hs => hs)
  have HM1 : Hid (Moved D D w _) := Lib.hid (Moved.of (hk1.mono (fun k _ e => by subst e; exact H.out.dr _ (Or.inl rfl))))
  have HR1 := Lib.hid hR1
  clear hk1 e1 e2 hR1
  clear c0 c1 c2 c3 c4 c5 c6 c7 z3 z5 hand hor
  go_loopw [51, 13, 14, 15] (fun vi _ _ _ wr => ∃ (k : Nat) (D1 : Nat → Prop), k ≤ hs.length ∧ vi = .int .i64 k ∧ LeaR wr D1 b0 (some bk) (some bl) (N + k) (promV A n low (hs.take k)) ∧ Moved D D1 w wr) (fun vi _ _ _ _ => hs.length - (intOf vi).toNat)
  case atStart => exact ⟨0, D, by omega, rfl, HR1.out, HM1.out⟩
  case round =>
    clear HR1 HM1
    obtain ⟨k, D1, hk, rfl, hR, hMv⟩ := hrel
    have HR := Lib.hid hR
    have HMv := Lib.hid hMv
    clear hR hMv
    by_cases hlt : k < hs.length
    · have hki : (k : Int) < (hs.length : Int) := by omega
      obtain ⟨s, hks⟩ : ∃ s, hs[k]? = some s := ⟨_, List.getElem?_eq_getElem hlt⟩
      obtain ⟨us, ub, ux, lx⟩ := HO.out s (List.mem_of_getElem? hks)
      have HSt := Lib.hid (promV_succ (A := A) (n := n) (low := low) hks)
      generalize promV A n low (hs.take k) = A1 at *
      obtain ⟨ao', c', he, _, _, hx⟩ := HV.out wr HMv.out.keep
      cases he
      obtain ⟨a, sv, rfl, q0, q1, q2, hsl⟩ := hx k s hks
      obtain ⟨so, sc, rfl, hsc1, hsc2⟩ := hsl.form
      simp only [List.length_map] at hsl hsc1 q2
      have hb1 := (Below.refl wr.heap.size wr).alloc (Nat.le_refl _) (.cells #[.int .u64 s.slot, .int .u64 s.ballot, .slice so s.val.length sc] 80)
      have hb2 := hb1.alloc (by simp) (.cells #[.int .u64 0, .int .u64 0, .slice none 0 0] 80)
      obtain ⟨⟨_, _, _, _, _, _, d6, _⟩, _⟩ := (HR.out.below hb1.drew (Nat.le_refl _)).cell
      obtain ⟨⟨_, _, _, _, _, _, d6', _⟩, _⟩ := (HR.out.below hb2.drew (Nat.le_refl _)).cell
      obtain ⟨lo, lc, hlk0, _, hsl2, _, _, _, _, hlc1, hlc2⟩ := HR.out.lookK (slot := s.slot) us
      obtain ⟨f, hf, hvals, hvx⟩ := HR.out.kn.some_ bk rfl
      have hlk := hlk0 (wr.alloc (.cells #[.int .u64 s.slot, .int .u64 s.ballot, .slice so s.val.length sc] 80)).drew (hb1.block bk hf.lt)
      have hlk' := hlk0 ((wr.alloc (.cells #[.int .u64 s.slot, .int .u64 s.ballot, .slice so s.val.length sc] 80)).alloc (.cells #[.int .u64 0, .int .u64 0, .slice none 0 0] 80)).drew (hb2.block bk hf.lt)
      have hbk := LR_lt HR.out bk (Or.inr (Or.inl rfl))
      have hbb := LR_lt HR.out b0 (Or.inl rfl)
      have HSl := Lib.hid hsl
      have HVals := Lib.hid hvals
      have HVx := Lib.hid hvx
      have HF := Lib.hid hf
      clear hx hks hsl hlk0 hsl2 hvals hvx hf
      cases hkn : A1.kn s.slot with
      | none =>
        rw [hkn] at hlk hlk'
        have hkO : kOr A1 s.slot = ⟨0, 0, []⟩ := by unfold kOr; rw [hkn]; rfl
        rw [hkO] at hlk hlk'
        simp only [Option.isSome_none] at hlk hlk'
        have HB1 := Lib.hid hb1
        have HB2 := Lib.hid hb2
        clear hb1 hb2
        clear hkO
        have HKn := Lib.hid hkn
        clear hkn
        have HNew := Lib.hid (newer_none HKn.out)
        go_wp2_with fail
        go_region
        all_goals
          go_wp2_with fail
          obtain ⟨W1, hW1⟩ : ∃ x, x = ((wr.alloc (.cells #[.int .u64 s.slot, .int .u64 s.ballot, .slice so s.val.length sc] 80)).alloc (.cells #[.int .u64 0, .int .u64 0, .slice lo 0 lc] 80)).drew := ⟨_, rfl⟩
          rw [← hW1]
          have hbw : Below wr.heap.size wr W1 := by rw [hW1]; exact (HB1.out.alloc (by simp) _).drew
          have hvw : W1.heap[wr.heap.size]? = some (.cells #[.int .u64 s.slot, .int .u64 s.ballot, .slice so s.val.length sc] 80 (0, 0)) := by
            rw [hW1]; exact (Below.heap_alloc _ _ _ (by simp)).trans (heap_alloc_new wr _)
          have hst := promStep HR.out HF.out us (by omega) hbw.drew (show W1.drew.heap[wr.heap.size]? = _ from hvw)
          have hcS := (hst W1.drew (Below.refl _ _)).1
          unfold PsC at hcS
          have HStep := Lib.hid hst
          have HCp := Lib.hid (lcopied_any (v := s) ((HSl.out.below hbw (Nat.le_refl _)).below (Below.refl _ W1).drew (Nat.le_refl _)) (by omega))
          have HBw := Lib.hid hbw
          clear hW1 hbw hvw hst
          go_region_held3 (fun w' => w'.cell? ⟨b0, 6, none⟩ = some (.map (some bk)) ∧ w'.cell? ⟨wr.heap.size, 0, none⟩ = some (.int .u64 s.slot) ∧ w'.cell? ⟨wr.heap.size, 1, none⟩ = some (.int .u64 s.ballot) ∧ w'.cell? ⟨wr.heap.size, 2, none⟩ = some (.slice so s.val.length sc)) (first | go_keep | exact hcS | exact hcB | exact hcC)
            (first
              | (go_at_call 69
                 refine HCp.out.mono ?_
                 rintro e wm ⟨ko, kc, rfl, hown, hbx⟩
                 obtain ⟨hcB, hst2⟩ := HStep.out wm hbx
                 obtain ⟨w2, hrun, hm2, hg2, hcC⟩ := hst2 (.agg #[.int .u64 s.slot, .int .u64 s.ballot, .slice ko s.val.length kc])
                 unfold PsC at hcB hcC
                 have hown := Lib.hid hown
                 have hm2 := Lib.hid hm2
                 have hg2 := Lib.hid hg2
                 have hbx := Lib.hid hbx
                 clear hst2))
          clear hcS
          (try clear hcB hcC)
          obtain ⟨hA, hkA⟩ := HR.out.putK HBw.out.drew.size (HBw.out.drew.trans (hbx.out.mono HBw.out.drew.size)) hown.out hm2.out hg2.out HVals.out HVx.out us ub ux lx
          have HA := Lib.hid hA
          have HkA := Lib.hid hkA
          clear hA hkA
          go_wp2_with fail
          go_roundw
          case rel =>
            refine ⟨k + 1, _, by omega, by go_num, ?_, HMv.out.trans (HkA.out.put (HR.out.dr _ (Or.inr (Or.inl rfl))))⟩
            rw [HSt.out]; unfold addV; rw [if_pos HNew.out]; exact HA.out
          case measure => simp [intOf]; omega
      | some o =>
        rw [hkn] at hlk hlk'
        simp only [Option.isSome_some] at hlk hlk'
        have hnw := newer_some (s := s) hkn
        have hko := kOr_some hkn
        have HB1 := Lib.hid hb1
        have HB2 := Lib.hid hb2
        clear hb1 hb2 hkn
        by_cases hbl : o.ballot < s.ballot
        · have hbd : decide ((kOr A1 s.slot).ballot < s.ballot) = true := by rw [hko]; exact decide_eq_true hbl
          have HNew := Lib.hid (hnw.trans (decide_eq_true hbl))
          clear hnw hko hbl
          go_wp2_with fail
          go_region
          all_goals
            go_wp2_with fail
            obtain ⟨W1, hW1⟩ : ∃ x, x = ((wr.alloc (.cells #[.int .u64 s.slot, .int .u64 s.ballot, .slice so s.val.length sc] 80)).alloc (.cells #[.int .u64 (kOr A1 s.slot).slot, .int .u64 (kOr A1 s.slot).ballot, .slice lo (kOr A1 s.slot).val.length lc] 80)).drew := ⟨_, rfl⟩
            rw [← hW1]
            have hbw : Below wr.heap.size wr W1 := by rw [hW1]; exact (HB1.out.alloc (by simp) _).drew
            have hvw : W1.heap[wr.heap.size]? = some (.cells #[.int .u64 s.slot, .int .u64 s.ballot, .slice so s.val.length sc] 80 (0, 0)) := by
              rw [hW1]; exact (Below.heap_alloc _ _ _ (by simp)).trans (heap_alloc_new wr _)
            have hst := promStep HR.out HF.out us (by omega) hbw.drew (show W1.drew.heap[wr.heap.size]? = _ from hvw)
            have hcS := (hst W1.drew (Below.refl _ _)).1
            unfold PsC at hcS
            have HStep := Lib.hid hst
            have HCp := Lib.hid (lcopied_any (v := s) ((HSl.out.below hbw (Nat.le_refl _)).below (Below.refl _ W1).drew (Nat.le_refl _)) (by omega))
            have HBw := Lib.hid hbw
            clear hW1 hbw hvw hst
            go_region_held3 (fun w' => w'.cell? ⟨b0, 6, none⟩ = some (.map (some bk)) ∧ w'.cell? ⟨wr.heap.size, 0, none⟩ = some (.int .u64 s.slot) ∧ w'.cell? ⟨wr.heap.size, 1, none⟩ = some (.int .u64 s.ballot) ∧ w'.cell? ⟨wr.heap.size, 2, none⟩ = some (.slice so s.val.length sc)) (first | go_keep | exact hcS | exact hcB | exact hcC)
              (first
                | (go_at_call 69
                   refine HCp.out.mono ?_
                   rintro e wm ⟨ko, kc, rfl, hown, hbx⟩
                   obtain ⟨hcB, hst2⟩ := HStep.out wm hbx
                   obtain ⟨w2, hrun, hm2, hg2, hcC⟩ := hst2 (.agg #[.int .u64 s.slot, .int .u64 s.ballot, .slice ko s.val.length kc])
                   unfold PsC at hcB hcC
                   have hown := Lib.hid hown
                   have hm2 := Lib.hid hm2
                   have hg2 := Lib.hid hg2
                   have hbx := Lib.hid hbx
                   clear hst2))
            clear hcS
            (try clear hcB hcC)
            obtain ⟨hA, hkA⟩ := HR.out.putK HBw.out.drew.size (HBw.out.drew.trans (hbx.out.mono HBw.out.drew.size)) hown.out hm2.out hg2.out HVals.out HVx.out us ub ux lx
            have HA := Lib.hid hA
            have HkA := Lib.hid hkA
            clear hA hkA
            go_wp2_with fail
            go_roundw
            case rel =>
              refine ⟨k + 1, _, by omega, by go_num, ?_, HMv.out.trans (HkA.out.put (HR.out.dr _ (Or.inr (Or.inl rfl))))⟩
              rw [HSt.out]; unfold addV; rw [if_pos HNew.out]; exact HA.out
            case measure => simp [intOf]; omega
        · have hbd : decide ((kOr A1 s.slot).ballot < s.ballot) = false := by rw [hko]; exact decide_eq_false hbl
          have HNew := Lib.hid (hnw.trans (decide_eq_false hbl))
          clear hnw hko hbl
          go_wp2_with fail
          go_region
          all_goals
            go_wp2_with fail
            have hbw : Below wr.heap.size wr ((wr.alloc (.cells #[.int .u64 s.slot, .int .u64 s.ballot, .slice so s.val.length sc] 80)).alloc (.cells #[.int .u64 (kOr A1 s.slot).slot, .int .u64 (kOr A1 s.slot).ballot, .slice lo (kOr A1 s.slot).val.length lc] 80)).drew := (HB1.out.alloc (by simp) _).drew
            have HBw := Lib.hid hbw
            clear hbw
            go_roundw
            case rel =>
              refine ⟨k + 1, D1, by omega, by go_num, ?_, HMv.out.trans (Moved.of (Below.keep0 _ HBw.out))⟩
              rw [HSt.out]; unfold addV; rw [if_neg (by rw [HNew.out]; simp)]; exact (HR.out.below HBw.out (Nat.le_refl _)).mono (by omega)
            case measure => simp [intOf]; omega
    · have hkl : k = hs.length := by omega
      subst hkl
      have hkd : decide ((hs.length : Int) < (hs.length : Int)) = false := decide_eq_false (by omega)
      obtain ⟨⟨_, _, _, _, _, d5, _, _⟩, _⟩ := HR.out.cell
      have hpm : (promV A n low (hs.take hs.length)).prom = addK A.prom n := promV_prom ..
      have hmn : (promV A n low (hs.take hs.length)).many = A.many := promV_many ..
      rw [hpm] at d5
      have HMj := Lib.hid (lmajority_any HR.out (addK A.prom n))
      rw [hmn] at HMj
      rw [List.take_length] at HR
      have HPm := Lib.hid hpm
      have HMn := Lib.hid hmn
      clear hpm hmn hlt
      by_cases hmj : A.many / 2 < cnt 32 (addK A.prom n)
      · have HDm := Lib.hid (decide_eq_true hmj)
        have HMJ := Lib.hid hmj
        clear hmj
        go_wp2_with fail
        refine HMj.out.mono ?_
        rintro e w2 ⟨rfl, nd, rfl⟩
        rw [HDm.out]
        have hbn := below_drewN (Below.refl wr.heap.size wr) nd
        have hRn := HR.out.below hbn (Nat.le_refl _)
        have HLd := Lib.hid (lead_any hRn (by rw [promV_stage]; exact HStg.out) hN hK (by rw [promV_op]; exact HKs.out))
        have HRn := Lib.hid hRn
        have HMn2 : Hid (Moved D D1 w (wr.drewN nd)) := Lib.hid (HMv.out.trans (Moved.of (Below.keep0 _ hbn)))
        clear hbn hRn
        go_wp2_with fail
        refine HLd.out.mono ?_
        rintro e w3 h3
        rcases h3 with ⟨h31, rfl, h32, h33⟩ | ⟨en, D', w1, ks, ao, c, vs, h31, h32, h33, h34, h35, rfl, h36⟩
        · have H3 := Lib.hid (And.intro h31 (And.intro h32 h33))
          clear h31 h32 h33
          go_wp2_with fail
          refine bodyPost_ret (v := .tuple #[.slice none 0 0, .bool false]) (by simp [results, Tryz.results91, go_sem]) rfl ?_
          refine Or.inr ⟨?_, D1, _, HRn.out, HMn2.out, Or.inl ⟨H3.out.1, rfl, H3.out.2.1, H3.out.2.2⟩⟩
          have e1 := promV_prom A n low hs
          have e2 := promV_many A n low hs
          rw [e1, e2]; exact HMJ.out
        · have H3 := Lib.hid (And.intro h31 (And.intro h32 (And.intro h33 (And.intro h34 (And.intro h35 h36)))))
          clear h31 h32 h33 h34 h35 h36
          go_wp2_with fail
          refine bodyPost_ret (v := .tuple #[.slice ao (opL (leadP (promV A n low hs) en) ks).length c, .bool true]) (by simp [results, Tryz.results91, go_sem]) rfl ?_
          refine Or.inr ⟨?_, D1, _, HRn.out, HMn2.out, Or.inr ⟨en, D', w1, ks, ao, c, vs, H3.out.1, H3.out.2.1, H3.out.2.2.1, H3.out.2.2.2.1, H3.out.2.2.2.2.1, rfl, H3.out.2.2.2.2.2⟩⟩
          have e1 := promV_prom A n low hs
          have e2 := promV_many A n low hs
          rw [e1, e2]; exact HMJ.out
      · have HDm := Lib.hid (decide_eq_false hmj)
        have HMJ : Hid (¬ A.many / 2 < cnt 32 (addK A.prom n)) := Lib.hid hmj
        clear hmj
        go_wp2_with fail
        refine HMj.out.mono ?_
        rintro e w2 ⟨rfl, nd, rfl⟩
        rw [HDm.out]
        go_wp2_with fail
        refine bodyPost_ret (v := .tuple #[.slice none 0 0, .bool false]) (by simp [results, Tryz.results91, go_sem]) rfl ?_
        have hbn := below_drewN (Below.refl wr.heap.size wr) nd
        have e1 := promV_prom A n low hs
        have e2 := promV_many A n low hs
        exact Or.inl ⟨by rw [e1, e2]; have := HMJ.out; omega, rfl, D1, HR.out.below hbn (Nat.le_refl _), HMv.out.trans (Moved.of (Below.keep0 _ hbn))⟩
end Go.Proofs.YtgmdedkingampaaGreat

namespace Go.Proofs.YtgmdedkingampaaGreat
open Go.RowKit Go.Shelf Go.Maps

attribute [local go_sem] Oper.semAt_some

theorem grownBy_alloc (w : World) (o : Obj) : w.grownBy (w.alloc o) none := by
  have hb := (Below.refl w.heap.size w).alloc (Nat.le_refl _) o
  exact ⟨hb.os, hb.tape, hb.output, hb.size, fun k hk _ => hb.block k hk⟩
set_option maxRecDepth 100000 in
set_option maxHeartbeats 1000000 in
theorem keysOn_in (F : Fence) (n : Nat) (hf : F.fn 130) (hro : F.round = none) (l Bm : Nat) (J : List Int → World → Prop)
    (W : World) (hJ : AbidesFrom W.heap.size J) (hm : W.cell? ⟨Bm, 0, none⟩ = some (.map none)) (h0 : J [] W) :
    CallsIn F n Tryz.prog 130 #[.func (.yield l) #[] #[], .pointer (some ⟨Bm, 0, none⟩)] W fun e W' => (∃ v, e = .returned v) ∧ J [] W' := by
  have hJ0 := hJ [] W (W.alloc (.mapIter none 0 #[] 0)) none h0 (grownBy_alloc W _) (fun r e => by cases e)
  have HJ := Lib.hid hJ0
  have hr := run_range_nilMap (P := Tryz.prog) W 124 _ _ Tryz.underlying124
  have hx := fun ty => run_next_nilMap (P := Tryz.prog) W ty 0 0 #[]
  clear hJ hJ0 h0
  refine callsIn_of_wp Tryz.func130 rfl hf ?_ hro
  simp only [Tryz.ntmps130, List.size_toArray, List.length_cons, List.length_nil, Nat.reduceAdd, Nat.reduceSub, Array.replicate_succ, Array.replicate_zero, List.push_toArray, List.append_toArray, List.nil_append, List.cons_append]
  gi_wp2
  gi_loopw [3] (fun _ wr => wr = W.alloc (.mapIter none 0 #[] 0)) (fun _ wr => 0)
  case atStart => rfl
  case round =>
    obtain rfl := hrel
    gi_wp2
    go_end0
    exact ⟨⟨_, rfl⟩, HJ.out⟩
theorem keysOn_stops (F : Fence) (n : Nat) (hf : F.fn 130) (hro : F.round = none) (Bm : Nat) (w : World) (hBm : Bm < w.heap.size) (hm : w.cell? ⟨Bm, 0, none⟩ = some (.map none)) :
    SeqStopsK F n Tryz.prog 130 #[.pointer (some ⟨Bm, 0, none⟩)] (fun x : Int => #[Value.int .u64 x]) KeepsWalks (AllKeys (fun _ => none)) (fun _ => True) 0 w := by
  intro l J Jx W hW hJ _ hY h0
  refine (keysOn_in F n hf hro l Bm J W hJ ((hW.cell (p := ⟨Bm, 0, none⟩) hBm).trans hm) h0).mono ?_
  rintro e W' ⟨h1, h2⟩
  exact ⟨h1, Or.inl ⟨[], ⟨List.nodup_nil, fun x => by simp⟩, h2⟩⟩
end Go.Proofs.YtgmdedkingampaaGreat

namespace Go.Proofs.YtgmdedkingampaaGreat
open Go.ChangeShapes Go.WideShapes Go.ChangeAt Go.RowKit Go.Maps Go.Shelf
set_option maxRecDepth 100000

set_option maxHeartbeats 1000000 in
theorem rising_nil (w : World) :
    Calls Tryz.prog 71 #[.map none, .func (.func 72) #[] #[]] w fun e w' => e = .returned (.slice none 0 0) ∧ Below w.heap.size w w' := by
  go_enter Tryz.func71, Tryz.ntmps71
  go_wp2_with fail
  refine (keysO_any none w).mono ?_
  rintro e w2 ⟨rfl, rfl⟩
  have hA := (Below.refl w.heap.size w).alloc (Nat.le_refl _) (.cells #[.map none] 124)
  have HA := Lib.hid hA
  have hseq := keysOn_stops Fence.wide 1 trivial rfl w.heap.size (w.alloc (.cells #[.map none] 124)) (by simp) (World.news_of_block (heap_alloc_new w _) 0 _ rfl)
  have HSo := Lib.hid (sortedU_any 130 #[.pointer (some ⟨w.heap.size, 0, none⟩)] (enters_of Tryz.func130 (by kernel_rfl) rfl) (AllKeys (fun _ => none)) 0 (by omega)
    (fun ss hs => by
      have : ss = [] := by
        cases ss with
        | nil => rfl
        | cons a r => have := (hs.2 a).1 (by simp); cases this
      subst this; decide) _ hseq)
  clear hA hseq
  go_wp2_with fail
  refine HSo.out.mono ?_
  rintro e w2 ⟨v, ss, rfl, hS, hown2, hb2⟩
  have hss : ss = [] := by
    cases ss with
    | nil => rfl
    | cons a r => have := (hS.2 a).1 (by simp); cases this
  subst hss
  obtain ⟨ko, kc, hve, _, _⟩ := own_form hown2
  simp only [List.length_nil] at hve
  subst hve
  have HB2 := Lib.hid (HA.out.trans (hb2.mono (by simp)))
  clear hown2 hb2 hS HSo
  go_wp2_with fail
  go_loopw [12, 5, 7] (fun i ov _ wr => i = .int .i64 0 ∧ ov = .slice none 0 0 ∧ Below w.heap.size w wr) (fun _ _ _ _ => 0)
  case atStart => exact ⟨rfl, rfl, HB2.out⟩
  case round =>
    obtain ⟨rfl, rfl, hb⟩ := hrel
    have HB := Lib.hid hb
    clear hb HB2
    go_wp2_with fail
    go_ret
    exact ⟨rfl, HB.out⟩
theorem lopen_nil {D : Nat → Prop} {w : World} {b0 N : Nat} {ko : Option Nat} {A : LS} (h : LeaR w D b0 ko none N A) :
    Calls Tryz.prog 38 #[.pointer (some ⟨b0, 0, none⟩)] w fun e w' => e = .returned (.slice none 0 0) ∧ Below w.heap.size w w' := by
  have HR := Lib.hid (rising_nil w)
  obtain ⟨⟨c0, c1, c2, c3, c4, c5, c6, c7⟩, _⟩ := h.cell
  clear h
  go_enter Tryz.func38, Tryz.ntmps38
  go_wp2_with fail
  refine HR.out.mono ?_
  rintro e w1 ⟨rfl, h2⟩
  have H2 := Lib.hid h2
  clear h2
  go_wp2_with fail
  go_ret
  exact ⟨rfl, H2.out⟩
end Go.Proofs.YtgmdedkingampaaGreat

namespace Go.Proofs.YtgmdedkingampaaGreat
open Go.ChangeShapes Go.WideShapes Go.ChangeAt Go.RowKit Go.Maps
set_option maxRecDepth 100000

def LeaO (p : Value) (D : Nat → Prop) (w : World) (N : Nat) (A : LS) : Prop := (∃ b0 ko lo n, p = .pointer (some ⟨b0, 0, none⟩) ∧ LeaR w D b0 ko lo n A ∧ n ≤ N) ∧ ∃ K : List Int, K.length ≤ N ∧ ∀ a, (A.op a).isSome = true → a ∈ K
theorem LeaO.keep {p : Value} {S D : Nat → Prop} {w w' : World} {N : Nat} {A : LS} (h : LeaO p D w N A) (hk : Keep S w w') (hS : ∀ k, S k → ¬ D k) : LeaO p D w' N A := by
  obtain ⟨⟨b0, ko, lo, n, h1, h2, h3⟩, h4⟩ := h
  exact ⟨⟨b0, ko, lo, n, h1, h2.keep hk hS, h3⟩, h4⟩
theorem LeaO.lt {p : Value} {D : Nat → Prop} {w : World} {N : Nat} {A : LS} (h : LeaO p D w N A) : ∀ k, D k → k < w.heap.size := by
  obtain ⟨⟨b0, ko, lo, n, h1, h2, h3⟩, h4⟩ := h
  exact h2.lt
def obLea (p : Value) (D : Nat → Prop) (N : Nat) (A : LS) : Ob := ⟨D, fun w => LeaO p D w N A⟩
theorem obLea_good (p : Value) (D : Nat → Prop) (N : Nat) (A : LS) : (obLea p D N A).Good := ⟨fun h hk hs => h.keep hk hs, fun h k hk => h.lt k hk⟩
section
variable {W w w' : World} {os : List Ob}
/-- A vote of a row of one's own, by its place. -/
theorem SepW.vtAt (h : SepW W w os) (i : Nat) {ao : Option Addr} {n c : Nat} {e : TypeId} {vs : List Value} {hs : List Vt} (hi : os[i]? = some (obVts (.slice ao n c) e vs hs)) (hne : hs ≠ []) : ∃ g, ao = some ⟨g, 0, none⟩ ∧ ∀ (j : Nat) s (o : Nat), hs[j]? = some s → o = j * 3 → ∃ so sc,
    w.cell? ⟨g, o, none⟩ = some (.int .u64 s.slot) ∧ w.cell? ⟨g, o + 1, none⟩ = some (.int .u64 s.ballot) ∧ w.cell? ⟨g, o + 2, none⟩ = some (.slice so s.val.length sc) ∧ SlR w (.slice so s.val.length sc) (u8s s.val) ∧ s.val.length ≤ sc ∧ sc ≤ 9223372036854775807 := by
  have hv : (obVts (.slice ao n c) e vs hs).inv w := h.get i hi
  have hown := hv.1
  rcases hown.2 with ⟨hn, h0⟩ | ⟨g, cap, cur, he, hb, hg, hnc, hcm, hcs, htake⟩
  · exact absurd (List.eq_nil_of_length_eq_zero h0) hne
  · cases he
    refine ⟨g, rfl, fun j s o hj ho => ?_⟩
    subst ho
    obtain ⟨h1, h2, sv, h3, h4⟩ := hv.2.1.2 j s hj
    obtain ⟨so, sc, rfl, k1, k2⟩ := h4.form
    simp only [List.length_map] at h3 h4 k1
    have e0 := hown.cells (g := g) rfl _ _ h1
    have e1 := hown.cells (g := g) rfl _ _ h2
    have e2 := hown.cells (g := g) rfl _ _ h3
    rw [add_zero_off] at e0 e1 e2
    exact ⟨so, sc, e0, e1, e2, h4, k1, k2⟩
variable {p : Value} {D : Nat → Prop} {N : Nat} {A : LS}
theorem SepW.leaNew (h : SepW W w os) {many : Int} (hm : 1 ≤ many ∧ many ≤ 32) : Calls Tryz.prog 61 #[.int .i64 many] w fun e w' => ∃ b0 D, e = .returned (.tuple #[.pointer (some ⟨b0, 0, none⟩), .int .i64 0]) ∧ SepW W w' (obLea (.pointer (some ⟨b0, 0, none⟩)) D 0 (newLS many) :: os) :=
  (lnew_ok hm w).mono fun e w' ⟨h1, h2, h3⟩ => ⟨w.heap.size, _, h1, h.new h3 (obLea_good ..) ⟨⟨_, none, none, 0, rfl, h2, Nat.le_refl _⟩, [], Nat.le_refl _, fun a ha => by cases ha⟩ (fun k hk => by rw [show k = w.heap.size from hk]; exact Nat.le_refl _)⟩
theorem SepW.leaBeginOld (h : SepW W w os) (i : Nat) (hi : os[i]? = some (obLea p D N A)) {b fr : Int} (hb : b ≤ A.ballot) : Calls Tryz.prog 45 #[p, .int .u64 b, .int .u64 fr] w fun e w' => e = .returned (.int .i64 32) ∧ w = w' := by
  obtain ⟨⟨b0, ko, lo, n, rfl, h2, h3⟩, h4⟩ := (h.get i hi : LeaO p D w N A)
  exact lbegin_old h2 hb
theorem SepW.leaBegin (h : SepW W w os) (i : Nat) (hi : os[i]? = some (obLea p D N A)) {b fr : Int} (hb : A.ballot < b) (ub : U1 b) (uf : U1 fr) : Calls Tryz.prog 45 #[p, .int .u64 b, .int .u64 fr] w fun e w' => e = .returned (.int .i64 0) ∧ ∃ D', SepW W w' (os.set i (obLea p D' 0 (beginL A b fr))) := by
  obtain ⟨⟨b0, ko, lo, n, rfl, h2, h3⟩, h4⟩ := (h.get i hi : LeaO p D w N A)
  exact (lbegin_ok h2 hb ub uf).mono fun e w' ⟨h1, D', bk, bl, g1, g2⟩ => ⟨h1, D', h.set i hi g2.keep (obLea_good ..) ⟨⟨_, _, _, 0, rfl, g1, Nat.le_refl _⟩, [], Nat.le_refl _, fun a ha => by cases ha⟩ g2.new⟩
theorem SepW.leaLeads (h : SepW W w os) (i : Nat) (hi : os[i]? = some (obLea p D N A)) : Calls Tryz.prog 32 #[p] w fun e w' => e = .returned (.bool (A.stage == 2)) ∧ w = w' := by
  obtain ⟨⟨b0, ko, lo, n, rfl, h2, h3⟩, h4⟩ := (h.get i hi : LeaO p D w N A)
  exact lleads_any h2
theorem SepW.leaBallot (h : SepW W w os) (i : Nat) (hi : os[i]? = some (obLea p D N A)) : Calls Tryz.prog 37 #[p] w fun e w' => e = .returned (.int .u64 A.ballot) ∧ w = w' := by
  obtain ⟨⟨b0, ko, lo, n, rfl, h2, h3⟩, h4⟩ := (h.get i hi : LeaO p D w N A)
  exact lballot_any h2
theorem SepW.leaStop (h : SepW W w os) (i : Nat) (hi : os[i]? = some (obLea p D N A)) : Calls Tryz.prog 97 #[p] w fun e w' => e = .returned (.tuple #[]) ∧ SepW W w' (os.set i (obLea p D N (stopL A))) := by
  obtain ⟨⟨b0, ko, lo, n, rfl, h2, h3⟩, h4⟩ := (h.get i hi : LeaO p D w N A)
  refine (lstop_any h2).mono fun e w' ⟨h1, g1, g2⟩ => ⟨h1, h.set i hi (g2.mono (fun k _ e => by subst e; exact h2.dr _ (Or.inl rfl))) (obLea_good ..) ⟨⟨_, _, _, n, rfl, g1, h3⟩, [], Nat.zero_le _, fun a ha => by cases ha⟩ (fun k hk => Or.inl hk)⟩
theorem SepW.leaProposeState (h : SepW W w os) (i : Nat) (hi : os[i]? = some (obLea p D N A)) {sv : Value} (hs : A.stage ≠ 2) : Calls Tryz.prog 27 #[p, sv] w fun e w' => e = .returned (.tuple #[.agg #[.int .u64 0, .int .u64 0, .slice none 0 0], .int .i64 33]) ∧ SepW W w' os := by
  obtain ⟨⟨b0, ko, lo, n, rfl, h2, h3⟩, h4⟩ := (h.get i hi : LeaO p D w N A)
  exact (lpropose_state h2 hs).mono fun e w' ⟨h1, g1⟩ => ⟨h1, h.step g1⟩
theorem SepW.leaProposeWorn (h : SepW W w os) (i : Nat) (hi : os[i]? = some (obLea p D N A)) {sv : Value} (hs : A.stage = 2) (hw : A.next = 18446744073709551615) : Calls Tryz.prog 27 #[p, sv] w fun e w' => e = .returned (.tuple #[.agg #[.int .u64 0, .int .u64 0, .slice none 0 0], .int .i64 37]) ∧ SepW W w' os := by
  obtain ⟨⟨b0, ko, lo, n, rfl, h2, h3⟩, h4⟩ := (h.get i hi : LeaO p D w N A)
  exact (lpropose_worn h2 hs hw).mono fun e w' ⟨h1, g1⟩ => ⟨h1, h.step g1⟩
theorem SepW.leaPropose (h : SepW W w os) (i : Nat) (hi : os[i]? = some (obLea p D N A)) {sv : Value} {xs : List Int} (hsl : SlR w sv (u8s xs)) (h8 : U8 xs) (hl : xs.length ≤ 1000000) (hs : A.stage = 2) (hw : A.next ≠ 18446744073709551615) (hN : N < 900000) : Calls Tryz.prog 27 #[p, sv] w fun e w' =>
    ∃ ao c D', e = .returned (.tuple #[.agg #[.int .u64 A.next, .int .u64 A.ballot, .slice ao xs.length c], .int .i64 0]) ∧ SepW W w' (obRow (.slice ao xs.length c) 5 1 xs.length (u8s xs) :: os.set i (obLea p D' (N + 1) (nextL (opP A ⟨A.next, A.ballot, xs⟩ (fun _ => false))))) := by
  obtain ⟨⟨b0, ko, lo, n, rfl, h2, h3⟩, K, h4, h5⟩ := (h.get i hi : LeaO p D w N A)
  have hlv := h2.live (by omega)
  obtain ⟨bl, rfl⟩ := Option.isSome_iff_exists.1 hlv.2
  refine (lpropose_ok h2 hsl h8 hl hs hw (by omega)).mono ?_
  rintro e w' ⟨ao, c, D', base, h1, g1, g2, g3, g4, g5⟩
  refine ⟨ao, c, D', h1, h.setRow i hi g5.keep (obLea_good ..) ⟨⟨_, _, _, n + 1, rfl, g4, by omega⟩, A.next :: K, by simp; omega, fun a ha => ?_⟩ g5.new g1 g2 g3⟩
  unfold nextL opP at ha
  simp only at ha
  by_cases e : a = A.next
  · rw [e]; simp
  · rw [if_neg e] at ha; exact List.mem_cons_of_mem _ (h5 a ha)
theorem SepW.leaPromNo (h : SepW W w os) (i : Nat) (hi : os[i]? = some (obLea p D N A)) {node b low : Int} {v : Value} (hno : ¬ (A.stage = 1 ∧ b = A.ballot ∧ 0 ≤ node ∧ node < A.many)) : Calls Tryz.prog 91 #[p, .int .i64 node, .int .u64 b, .int .u64 low, v] w fun e w' => e = .returned (.tuple #[.slice none 0 0, .bool false]) ∧ w = w' := by
  obtain ⟨⟨b0, ko, lo, n, rfl, h2, h3⟩, h4⟩ := (h.get i hi : LeaO p D w N A)
  exact lprom_no h2 hno
theorem SepW.leaPromTwice (h : SepW W w os) (i : Nat) (hi : os[i]? = some (obLea p D N A)) {n : Nat} {b low : Int} {v : Value} (hyes : A.stage = 1 ∧ b = A.ballot ∧ 0 ≤ (n : Int) ∧ (n : Int) < A.many) (hp : A.prom n = true) : Calls Tryz.prog 91 #[p, .int .i64 n, .int .u64 b, .int .u64 low, v] w fun e w' => e = .returned (.tuple #[.slice none 0 0, .bool false]) ∧ w = w' := by
  obtain ⟨⟨b0, ko, lo, n, rfl, h2, h3⟩, h4⟩ := (h.get i hi : LeaO p D w N A)
  exact lprom_twice h2 hyes hp
theorem leadP_keys {A : LS} {en : Int} {K : List Int} (hK : ∀ a, (A.op a).isSome = true → a ∈ K) (he : en - A.first ≤ 4097) (a : Int) (ha : (leadP A en a).isSome = true) : a ∈ K ++ (List.range 4097).map (fun (k : Nat) => A.first + (k : Int)) := by
  unfold leadP at ha
  by_cases hin : A.first ≤ a ∧ a < en
  · exact List.mem_append_right _ (List.mem_map.2 ⟨(a - A.first).toNat, List.mem_range.2 (by omega), by omega⟩)
  · rw [if_neg hin] at ha
    exact List.mem_append_left _ (hK a ha)
theorem IsEnd.near {A : LS} {en : Int} (h : IsEnd A en) (hf : ¬ farL A) : en - A.first ≤ 4096 := by
  rcases h.2.2 with hen | ⟨s, s1, s2, s3⟩
  · omega
  · by_cases h4 : 4096 ≤ s - A.first
    · exact absurd ⟨s, s1, s2, Or.inr h4⟩ hf
    · omega
/-- What a promise that is noted comes to, among other things. -/
def SepPm (W : World) (os : List Ob) (i : Nat) (p : Value) (N : Nat) (A : LS) (e : Ending) (w' : World) : Prop :=
  (¬ A.many / 2 < cnt 32 A.prom ∧ e = .returned (.tuple #[.slice none 0 0, .bool false]) ∧ ∃ D', SepW W w' (os.set i (obLea p D' N A))) ∨
  (A.many / 2 < cnt 32 A.prom ∧ farL A ∧ e = .returned (.tuple #[.slice none 0 0, .bool false]) ∧ ∃ D', SepW W w' (os.set i (obLea p D' N (stopL A)))) ∨
  (A.many / 2 < cnt 32 A.prom ∧ ¬ farL A ∧ ∃ en D' ks ao c vs, IsEnd A en ∧ IsOKeys (leadP A en) ks ∧ e = .returned (.tuple #[.slice ao (opL (leadP A en) ks).length c, .bool true]) ∧
    SepW W w' (obVts (.slice ao (opL (leadP A en) ks).length c) 80 vs (opL (leadP A en) ks) :: os.set i (obLea p D' (N + 4097) (leadL A en))))
theorem SepW.leaProm (h : SepW W w os) (i : Nat) (hi : os[i]? = some (obLea p D N A)) {n : Nat} {b low : Int} {v : Value} {hs : List Vt} (hyes : A.stage = 1 ∧ b = A.ballot ∧ 0 ≤ (n : Int) ∧ (n : Int) < A.many) (hp : A.prom n = false) (ul : U1 low)
    (hv : ∀ w', Keep D w w' → VtL w' v hs) (ho : VtsOk hs) (hN : N + hs.length < 800000) : Calls Tryz.prog 91 #[p, .int .i64 n, .int .u64 b, .int .u64 low, v] w (SepPm W os i p (N + hs.length) (promV A n low hs)) := by
  obtain ⟨⟨b0, ko, lo, m, rfl, h2, h3⟩, K, h4, h5⟩ := (h.get i hi : LeaO p D w N A)
  have hlv := h2.live (by omega)
  obtain ⟨bk, rfl⟩ := Option.isSome_iff_exists.1 hlv.1
  obtain ⟨bl, rfl⟩ := Option.isSome_iff_exists.1 hlv.2
  have hop := promV_op A n low hs
  refine (lprom_ok h2 hyes hp ul hv ho (by omega) (by omega) h5).mono ?_
  rintro e w' (⟨g1, rfl, D', g2, g3⟩ | ⟨g1, D1, w1, g2, g3, (⟨q1, rfl, q2, q3⟩ | ⟨en, D', w2, ks, ao, c, vs, q1, q2, q3, q4, q5, rfl, q6⟩)⟩)
  · exact Or.inl ⟨g1, rfl, D', h.set i hi g3.keep (obLea_good ..) ⟨⟨_, _, _, _, rfl, g2, by omega⟩, K, by omega, by rw [hop]; exact h5⟩ g3.new⟩
  · exact Or.inr (Or.inl ⟨g1, q1, rfl, D1, h.set i hi (g3.trans (Moved.of q3)).keep (obLea_good ..) ⟨⟨_, _, _, _, rfl, q2, by omega⟩, [], Nat.zero_le _, fun a ha => by cases ha⟩ (g3.trans (Moved.of q3)).new⟩)
  · have hm := g3.trans q4
    have hs2 := h.set i hi (o' := obLea (.pointer (some ⟨b0, 0, none⟩)) D' (N + hs.length + 4097) (leadL (promV A n low hs) en)) hm.keep (obLea_good ..) ⟨⟨_, _, _, _, rfl, q3, by omega⟩, K ++ (List.range 4097).map (fun (k : Nat) => (promV A n low hs).first + (k : Int)), by simp; omega, fun a ha => leadP_keys (by rw [hop]; exact h5) (by have := q2.near q1; omega) a ha⟩ hm.new
    have hvn : SepW w2 w' [obVts (.slice ao (opL (leadP (promV A n low hs) en) ks).length c) 80 vs (opL (leadP (promV A n low hs) en) ks)] := q6
    exact Or.inr (Or.inr ⟨g1, q1, en, D', ks, ao, c, vs, q2, q5, rfl, hs2.new hvn.below (obVts_good ..) (hvn.get 0 rfl) (fun k hk => hvn.sep.base _ (by simp) k hk)⟩)
theorem SepW.leaAccNo (h : SepW W w os) (i : Nat) (hi : os[i]? = some (obLea p D N A)) {node b s : Int} (hno : ¬ (A.stage = 2 ∧ b = A.ballot ∧ 0 ≤ node ∧ node < A.many)) : Calls Tryz.prog 95 #[p, .int .i64 node, .int .u64 b, .int .u64 s] w fun e w' => e = .returned (.tuple #[.agg #[.int .u64 0, .int .u64 0, .slice none 0 0], .bool false]) ∧ SepW W w' os := by
  obtain ⟨⟨b0, ko, lo, n, rfl, h2, h3⟩, h4⟩ := (h.get i hi : LeaO p D w N A)
  exact (lacc_no h2 hno).mono fun e w' ⟨h1, g1⟩ => ⟨h1, h.step g1⟩
theorem SepW.leaAccNone (h : SepW W w os) (i : Nat) (hi : os[i]? = some (obLea p D N A)) {node b s : Int} (hyes : A.stage = 2 ∧ b = A.ballot ∧ 0 ≤ node ∧ node < A.many) (us : U1 s) (hn : A.op s = none) : Calls Tryz.prog 95 #[p, .int .i64 node, .int .u64 b, .int .u64 s] w fun e w' => e = .returned (.tuple #[.agg #[.int .u64 0, .int .u64 0, .slice none 0 0], .bool false]) ∧ SepW W w' os := by
  obtain ⟨⟨b0, ko, lo, n, rfl, h2, h3⟩, h4⟩ := (h.get i hi : LeaO p D w N A)
  have hlv := h2.live (by omega)
  obtain ⟨bl, rfl⟩ := Option.isSome_iff_exists.1 hlv.2
  exact (lacc_none h2 hyes us hn).mono fun e w' ⟨h1, g1⟩ => ⟨h1, h.step g1⟩
/-- What a vote that is noted comes to, among other things. -/
def SepAc (W : World) (os : List Ob) (i : Nat) (p : Value) (N : Nat) (A : LS) (v : Vt) (g : Nat → Bool) (e : Ending) (w' : World) : Prop :=
  (A.many / 2 < cnt 32 g ∧ ∃ ao c D', e = .returned (.tuple #[.agg #[.int .u64 v.slot, .int .u64 v.ballot, .slice ao v.val.length c], .bool true]) ∧ SepW W w' (obRow (.slice ao v.val.length c) 5 1 v.val.length (u8s v.val) :: os.set i (obLea p D' (N + 1) (opD A v.slot)))) ∨
  (¬ A.many / 2 < cnt 32 g ∧ e = .returned (.tuple #[.agg #[.int .u64 0, .int .u64 0, .slice none 0 0], .bool false]) ∧ ∃ D', SepW W w' (os.set i (obLea p D' (N + 1) (opP A v g))))
theorem SepW.leaAcc (h : SepW W w os) (i : Nat) (hi : os[i]? = some (obLea p D N A)) {n : Nat} {b s : Int} (hyes : A.stage = 2 ∧ b = A.ballot ∧ 0 ≤ (n : Int) ∧ (n : Int) < A.many) (us : U1 s) {v : Vt} {g : Nat → Bool} (hs : A.op s = some (v, g)) (hN : N < 900000) : Calls Tryz.prog 95 #[p, .int .i64 n, .int .u64 b, .int .u64 s] w (SepAc W os i p N A v (addK g n)) := by
  obtain ⟨⟨b0, ko, lo, m, rfl, h2, h3⟩, K, h4, h5⟩ := (h.get i hi : LeaO p D w N A)
  have hlv := h2.live (by omega)
  obtain ⟨bl, rfl⟩ := Option.isSome_iff_exists.1 hlv.2
  have hvs : v.slot = s := (h2.op.small s (v, g) hs).2.1
  refine (lacc_ok h2 hyes us hs (by omega)).mono ?_
  rintro e w' ⟨g1, g2⟩
  by_cases hm : A.many / 2 < cnt 32 (addK g n)
  · obtain ⟨ao, c, D', base, q1, q2, q3, q4, q5, q6⟩ := g1 hm
    refine Or.inl ⟨hm, ao, c, D', q1, h.setRow i hi q6.keep (obLea_good ..) ⟨⟨_, _, _, m + 1, rfl, q5, by omega⟩, K, by omega, fun a ha => ?_⟩ q6.new q2 q3 q4⟩
    unfold opD at ha
    simp only at ha
    by_cases e : a = v.slot
    · rw [if_pos e] at ha; cases ha
    · rw [if_neg e] at ha; exact h5 a ha
  · obtain ⟨q1, D', q2, q3⟩ := g2 hm
    refine Or.inr ⟨hm, q1, D', h.set i hi q3.keep (obLea_good ..) ⟨⟨_, _, _, m + 1, rfl, q2, by omega⟩, K, by omega, fun a ha => ?_⟩ q3.new⟩
    unfold opP at ha
    simp only at ha
    by_cases e : a = v.slot
    · rw [e, hvs]; exact h5 s (by rw [hs]; rfl)
    · rw [if_neg e] at ha; exact h5 a ha
theorem SepW.leaOpen (h : SepW W w os) (i : Nat) (hi : os[i]? = some (obLea p D N A)) (hN : N < 900000) : Calls Tryz.prog 38 #[p] w fun e w' =>
    ∃ ks ao c vs, IsOKeys A.op ks ∧ e = .returned (.slice ao (opL A.op ks).length c) ∧ SepW W w' (obVts (.slice ao (opL A.op ks).length c) 80 vs (opL A.op ks) :: os) := by
  obtain ⟨⟨b0, ko, lo, n, rfl, h2, h3⟩, K, h4, h5⟩ := (h.get i hi : LeaO p D w N A)
  cases lo with
  | none =>
    refine (lopen_nil h2).mono ?_
    rintro e w' ⟨rfl, hb⟩
    refine ⟨[], none, 0, [], ⟨List.Pairwise.nil, fun x => ?_⟩, rfl, h.new hb (obVts_good ..) ⟨World.ownsRow_nil _ _ _ _, VtC.nil _, by intro u hu; cases hu⟩ (fun k hk => ?_)⟩
    · rw [h2.op.none_ rfl x]; simp
    · rcases hk with hk | ⟨u, hu, _⟩
      · cases hk
      · cases hu
  | some bl =>
    refine (lopen_any h2 (by omega) (by omega) h5).mono ?_
    rintro e w' ⟨ks, ao, c, vs, q1, rfl, q2⟩
    exact ⟨ks, ao, c, vs, q1, rfl, h.new q2.below (obVts_good ..) (q2.get 0 rfl) (fun k hk => q2.sep.base _ (by simp) k hk)⟩
end
end Go.Proofs.YtgmdedkingampaaGreat
