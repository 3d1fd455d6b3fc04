/-
  Package leader: lead.
-/
import Derived.Test.YtjdjfhioobhcjaaLeaC
namespace Go.Proofs.Ytjdjfhioobhcjaa
open Go.ChangeShapes Go.WideShapes Go.ChangeAt Go.RowKit Go.Maps
set_option maxRecDepth 100000

theorem LeaR.mono {D : Nat → Prop} {w : World} {b0 N M : Nat} {ko lo : Option Nat} {A : LS} (h : LeaR w D b0 ko lo N A) (hM : N ≤ M) : LeaR w D b0 ko lo M A :=
  ⟨h.cells, h.lt, h.dr, h.ne, h.kn.keep (Keep.refl (fun _ => False) w) (fun _ hk _ => hk.elim) (fun _ _ hk => hk) (fun _ h => h) (fun _ _ h => h) hM, h.op.keep (Keep.refl (fun _ => False) w) (fun _ hk _ => hk.elim) (fun _ _ hk => hk) (fun _ h => h) (fun _ _ h => h) hM, h.many, h.num, h.live⟩
theorem Keep.put {D : Nat → Prop} {b : Nat} {w w2 : World} (h : Keep (fun k => k = b) w w2) (hb : D b) : Moved D (fun k => D k ∨ (w.heap.size ≤ k ∧ k < w2.heap.size)) w w2 :=
  ⟨h.mono (fun k _ e => by subst e; exact hb), fun k hd => Or.inl hd, fun k hd => hd.elim Or.inl (fun h => Or.inr h.1)⟩
theorem voteVal (x y z : Value) (w : World) : (Instr.field 39 (.agg #[x, y, z]) 2).run Try.prog w = .ok z w := by kernel_rfl
/-- A vote is known too far ahead. -/
def farL (A : LS) : Prop := ∃ s, (A.kn s).isSome = true ∧ A.first ≤ s ∧ (s = 18446744073709551615 ∨ 4096 ≤ s - A.first)
/-- Where the slots that are proposed end. -/
def IsEnd (A : LS) (en : Int) : Prop := (A.first ≤ en ∧ U1 en) ∧ (∀ s, (A.kn s).isSome = true → A.first ≤ s → s < en) ∧ (en = A.first ∨ ∃ s, (A.kn s).isSome = true ∧ A.first ≤ s ∧ en = s + 1)
def leadP (A : LS) (en : Int) : Int → Option (Vt × (Nat → Bool)) := fun a => if A.first ≤ a ∧ a < en then some (⟨a, A.ballot, (kOr A a).val⟩, fun _ => false) else A.op a
def leadQ (A : LS) (en : Int) : LS := ⟨A.many, A.stage, A.ballot, A.first, A.next, A.prom, A.kn, leadP A en⟩
def leadL (A : LS) (en : Int) : LS := ⟨A.many, 2, A.ballot, A.first, en, A.prom, A.kn, leadP A en⟩
theorem leadQ_zero (A : LS) : leadQ A A.first = A := by
  have : leadP A A.first = A.op := by
    funext a; unfold leadP; rw [if_neg (by omega)]
  unfold leadQ; rw [this]
theorem leadQ_succ (A : LS) {m : Int} (hm : A.first ≤ m) : leadQ A (m + 1) = opP (leadQ A m) ⟨m, A.ballot, (kOr A m).val⟩ (fun _ => false) := by
  have : leadP A (m + 1) = fun a => if a = m then some (⟨m, A.ballot, (kOr A m).val⟩, fun _ => false) else leadP A m a := by
    funext a; unfold leadP
    by_cases e : a = m
    · subst e; rw [if_pos (by omega), if_pos rfl]
    · rw [if_neg e]
      by_cases h : A.first ≤ a ∧ a < m
      · rw [if_pos h, if_pos (by omega)]
      · rw [if_neg h, if_neg (by omega)]
  unfold leadQ opP; rw [this]
/-- What has been seen of the known votes. -/
def EndR (A : LS) (left : Lit → Bool) (e : Int) : Prop := (A.first ≤ e ∧ U1 e) ∧ (∀ a : Int, (A.kn a).isSome = true → left (.int .u64 a) = false → A.first ≤ a → a < e ∧ a ≠ 18446744073709551615 ∧ a - A.first < 4096) ∧
  (e = A.first ∨ ∃ s, (A.kn s).isSome = true ∧ A.first ≤ s ∧ e = s + 1) ∧ ∀ a : Int, U1 a → left (.int .u64 a) = true → (A.kn a).isSome = true
theorem EndR.skip {A : LS} {left : Lit → Bool} {e x : Int} (h : EndR A left e) (hx : x < A.first) : EndR A (fun z => left z && !z.sameKey (.int .u64 x)) e := by
  refine ⟨h.1, fun a ha hl hf => h.2.1 a ha ?_ hf, h.2.2.1, fun a ha hl => h.2.2.2 a ha ?_⟩
  · have hne : a ≠ x := by omega
    simpa [Lit.sameKey, hne] using hl
  · simp at hl; exact hl.1
theorem EndR.take {A : LS} {left : Lit → Bool} {e x : Int} (h : EndR A left e) (ux : U1 x) (hk : left (.int .u64 x) = true) (hx : A.first ≤ x) (hm : x ≠ 18446744073709551615) (hf : x - A.first < 4096) : EndR A (fun z => left z && !z.sameKey (.int .u64 x)) (max e (x + 1)) := by
  have hs := h.2.2.2 x ux hk
  obtain ⟨u1, u2⟩ := ux
  obtain ⟨⟨g0, g1, g2⟩, g3, g4, g5⟩ := h
  refine ⟨⟨by omega, by omega, by omega⟩, fun a ha hl hf' => ?_, ?_, fun a ha hl => g5 a ha ?_⟩
  · by_cases e1 : a = x
    · subst e1; exact ⟨by omega, hm, hf⟩
    · have := g3 a ha (by simpa [Lit.sameKey, e1] using hl) hf'
      exact ⟨by omega, this.2⟩
  · by_cases hle : e ≤ x + 1
    · right; exact ⟨x, hs, hx, by omega⟩
    · rcases g4 with g4 | ⟨s, q1, q2, q3⟩
      · omega
      · right; exact ⟨s, q1, q2, by omega⟩
  · simp at hl; exact hl.1
theorem EndR.done {A : LS} {left : Lit → Bool} {e : Int} (h : EndR A left e) (hl : ∀ kl, left kl = false) : IsEnd A e ∧ ¬ farL A := by
  refine ⟨⟨h.1, fun s hs hf => (h.2.1 s hs (hl _) hf).1, h.2.2.1⟩, ?_⟩
  rintro ⟨s, hs, hf, hx⟩
  have := h.2.1 s hs (hl _) hf
  omega
theorem IsEnd.unique {A : LS} {e e' : Int} (h : IsEnd A e) (h' : IsEnd A e') : e = e' := by
  obtain ⟨⟨a1, _⟩, a2, a3⟩ := h
  obtain ⟨⟨b1, _⟩, b2, b3⟩ := h'
  rcases a3 with a3 | ⟨s, s1, s2, s3⟩
  · rcases b3 with b3 | ⟨t, t1, t2, t3⟩
    · omega
    · have := a2 t t1 t2; omega
  · have := b2 s s1 s2
    rcases b3 with b3 | ⟨t, t1, t2, t3⟩
    · omega
    · have := a2 t t1 t2; omega
/-- What 'lead' comes to. -/
def RetLd (D : Nat → Prop) (b0 bk bl N : Nat) (A : LS) (w : World) (e : Ending) (w' : World) : Prop :=
  (farL A ∧ e = .returned (.tuple #[.slice none 0 0, .bool false]) ∧ LeaR w' D b0 (some bk) none N (stopL A) ∧ Keep D w w') ∨
  ∃ en D' w1 ks ao c vs, ¬ farL A ∧ IsEnd A en ∧ LeaR w1 D' b0 (some bk) (some bl) (N + 4097) (leadL A en) ∧ Moved D D' w w1 ∧ IsOKeys (leadP A en) ks ∧ e = .returned (.tuple #[.slice ao (opL (leadP A en) ks).length c, .bool true]) ∧
    SepW w1 w' [obVts (.slice ao (opL (leadP A en) ks).length c) 39 vs (opL (leadP A en) ks)]
set_option maxHeartbeats 4000000 in
theorem lead_any {D : Nat → Prop} {w : World} {b0 bk bl N : Nat} {A : LS} (h : LeaR w D b0 (some bk) (some bl) N A) (hsg : A.stage = 1) (hN : N < 900000) {K : List Int} (hK : K.length < 900000) (hKs : ∀ a, (A.op a).isSome = true → a ∈ K) :
    Calls Try.prog 58 #[.pointer (some ⟨b0, 0, none⟩)] w (RetLd D b0 bk bl N A w) := by
  obtain ⟨⟨c0, c1, c2, c3, c4, c5, c6, c7⟩, _⟩ := h.cell
  obtain ⟨f0, ⟨D0, hown, hm, hf⟩, hv, hx⟩ := h.kn.some_ bk rfl
  have hU := h.num.2.1
  have hst : EndR A (has D0) A.first := by
    refine ⟨⟨Int.le_refl _, hU⟩, fun a ha hl hf' => ?_, Or.inl rfl, fun a ha hl => ?_⟩
    · exfalso
      obtain ⟨v, hva⟩ := Option.isSome_iff_exists.1 ha
      have := hv a (h.kn.small a v hva).1
      rw [hva] at this
      obtain ⟨sv, e1, _⟩ := this
      rw [(hf (.int .u64 a)).1, e1] at hl
      cases hl
    · rw [(hf (.int .u64 a)).1] at hl
      have := hv a ha
      cases hk : A.kn a with
      | none => rw [hk] at this; rw [show f0 (.int .u64 a) = none from this] at hl; cases hl
      | some v => rfl
  have H := Lib.hid h
  have HSt := Lib.hid hst
  have HSg := Lib.hid hsg
  have HKs := Lib.hid hKs
  have hb0 := LR_lt h b0 (Or.inl rfl)
  have hbk := LR_lt h bk (Or.inr (Or.inl rfl))
  clear h hst hsg hKs hv hx hf hm
  go_enter Try.func58, Try.ntmps58
  go_wp2_with (first
    | (at_range; refine wpList_range_own _ rfl _ 105 rfl 29 39 uKeyed Try.underlying105 heldR bk N D0 rfl hown ?_
       intro w0 hrg0 hg0 hs0)
    | fail)
  have HG0 := Lib.hid hg0
  clear hg0 hs0
  (try go_frame)
  go_loopw [4, 5] (fun v4 _ wr => ∃ (e : Int) (left : Lit → Bool) (cnt : Nat), v4 = .int .u64 e ∧ wr.ranges Try.prog 29 heldR bk w.heap.size N D0 left cnt ∧ EndR A left e ∧ Keep (fun k => w.heap.size ≤ k) w wr)
    (fun _ _ wr => wr.rangeLeft bk w.heap.size)
  case atStart => exact ⟨_, _, _, rfl, hrg0, HSt.out, Keep.grown HG0.out (fun k hk => by cases hk)⟩
  case round =>
    clear HSt
    obtain ⟨e, left, cnt, rfl, hrg, hE, hkp⟩ := hrel
    have HE := Lib.hid hE
    have HKp := Lib.hid hkp
    have hbw : Below w.heap.size w wr := hkp.below (Nat.le_refl _) (fun k hk => hk)
    have HR := Lib.hid (H.out.below hbw (Nat.le_refl _))
    have HBw := Lib.hid hbw
    clear hE hkp hbw
    go_wp2_with (first
      | (at_next; refine wpList_next_ranges _ rfl _ rfl 29 uKeyed heldR (Value.int .u64) id (fun key kl hk => by obtain ⟨x, hx, _⟩ := Maps.keyOf_int_inv Try.underlying29 hk; exact ⟨x, hx⟩) (fun v _ _ => ⟨v, rfl⟩) bk w.heap.size N _ _ _ rfl hrg ?_ ?_)
      | fail)
    · intro hc0 hl0
      have HEd := Lib.hid (HE.out.done hl0)
      clear hl0
      have HR0 := Lib.hid HR.out
      rw [← leadQ_zero A] at HR0
      obtain ⟨⟨⟨hfe, ue⟩, _, hen⟩, hnf⟩ := id HEd.out
      have he4 : e - A.first ≤ 4096 := by
        rcases hen with hen | ⟨s, s1, s2, s3⟩
        · omega
        · by_cases h4 : 4096 ≤ s - A.first
          · exact absurd ⟨s, s1, s2, Or.inr h4⟩ hnf
          · omega
      obtain ⟨⟨_, _, _, d3, _, _, _, _⟩, _⟩ := HR.out.cell
      obtain ⟨f1, f2⟩ := hU
      obtain ⟨e1, e2⟩ := ue
      clear hrg hc0 hen hnf c0 c1 c2 c3 c4 c5 c6 c7 hown
      go_wp2_with fail
      go_loopw [6] (fun v6 wr2 => ∃ (k : Nat) (D1 : Nat → Prop), v6 = .int .u64 (A.first + k) ∧ A.first + k ≤ e ∧ LeaR wr2 D1 b0 (some bk) (some bl) (N + k) (leadQ A (A.first + k)) ∧ Moved D D1 w wr2) (fun v6 _ => (e - intOf v6).toNat)
      case atStart => exact ⟨0, D, by simp, by omega, by simpa using HR0.out, Moved.of (Below.keep0 D HBw.out)⟩
      case round =>
        clear HR0 d3
        obtain ⟨k, D1, rfl, hke, hR, hMv⟩ := hrel
        obtain ⟨m, hm⟩ : ∃ m, m = A.first + (k : Int) := ⟨_, rfl⟩
        rw [← hm] at hR hke ⊢
        have HRk := Lib.hid hR
        have HMv := Lib.hid hMv
        have hmf : A.first ≤ m := by omega
        have um : U1 m := ⟨by omega, by omega⟩
        have hk4 : k ≤ 4096 := by omega
        have Hm := Lib.hid hm
        clear hR hMv hm
        obtain ⟨⟨_, d1, d2', d3', d4', _, d6, d7⟩, hz⟩ := HRk.out.cell
        have d2 : wr.cell? ⟨b0, 2, none⟩ = some (.int .u64 A.ballot) := d2'
        have d3 : wr.cell? ⟨b0, 3, none⟩ = some (.int .u64 A.first) := d3'
        have d4 : wr.cell? ⟨b0, 4, none⟩ = some (.int .u64 A.next) := d4'
        clear d2' d3' d4'
        have z1 := hz 1
        have z4 := hz 4
        clear hz
        by_cases hlt : m < e
        · obtain ⟨lo, lc, _, hlk0, hsl, hvl, hv8, hvb, hvo, hlc1, hlc2⟩ := HRk.out.lookK (slot := m) um
          obtain ⟨f, hf, hvals, hvx⟩ := HRk.out.op.some_ bl rfl
          have hlk := hlk0 wr.drew rfl
          have hkq : kOr (leadQ A m) m = kOr A m := rfl
          rw [hkq] at hlk hsl hvl hv8 hvb hvo hlc1
          obtain ⟨w2, hrun, hm2, hg2⟩ := (hf.same (show wr.drew.heap[bl]? = wr.heap[bl]? from rfl)).store uKeyed Try.underlying114 (by unfold maxLen; omega) (u_key um) (val := .agg #[.int .u64 m, .int .u64 A.ballot, .slice lo (kOr A m).val.length lc, .int .u32 0]) (by trivial)
          have hne := HRk.out.ne.2.1 bl rfl
          have hne2 := HRk.out.ne.2.2 bk rfl
          have q2 := hg2.cell (a := ⟨b0, 2, none⟩) (show wr.drew.cell? ⟨b0, 2, none⟩ = _ from d2) (by simp; omega)
          have q6 := hg2.cell (a := ⟨b0, 6, none⟩) (show wr.drew.cell? ⟨b0, 6, none⟩ = _ from d6) (by simp; omega)
          have q7 := hg2.cell (a := ⟨b0, 7, none⟩) (show wr.drew.cell? ⟨b0, 7, none⟩ = _ from d7) (by simp; omega)
          have hw1 : IntKind.u64.wrap (m + 1) = m + 1 := IntWalk.u64_in _ (by omega)
          obtain ⟨hA, hkA⟩ := HRk.out.putO (wm := wr.drew) (v := ⟨m, A.ballot, (kOr A m).val⟩) (g := fun _ => false) (Below.refl _ _).drew (hsl.below (Below.refl _ _).drew (Nat.le_refl _)) (fun k hk => Or.inl (hvo k hk)) (by simpa [msk_none] using hm2) hg2 hvals hvx um HRk.out.num.1 hv8 hvl
          rw [← leadQ_succ A hmf] at hA
          have HA := Lib.hid hA
          have HkA := Lib.hid hkA
          have hb7 := HRk.out.dr bl (Or.inr (Or.inr rfl))
          clear hA hkA hm2 hg2 hvals hvx hf hsl hlk0 hvo hv8 hvb hkq
          go_wp2_with fail
          have hfld : ∀ w : World, (Instr.field 39 (.agg #[.int .u64 (kOr A m).slot, .int .u64 (kOr A m).ballot, .slice lo (kOr A m).val.length lc]) 2).run Try.prog w = .ok (.slice lo (kOr A m).val.length lc) w := fun w => voteVal _ _ _ w
          go_region_held3 (fun w' => w'.cell? ⟨b0, 2, none⟩ = some (.int .u64 A.ballot) ∧ w'.cell? ⟨b0, 6, none⟩ = some (.map (some bk)) ∧ w'.cell? ⟨b0, 7, none⟩ = some (.map (some bl))) (first | go_keep)
            (first | fail)
          clear q2 q6 q7 hrun hfld
          go_wp2_with fail
          go_roundw
          case rel => exact ⟨k + 1, _, by rw [Hm.out]; go_num, by have := Hm.out; omega, by rw [Hm.out] at HA; have := HA.out; rwa [Int.add_assoc] at this, HMv.out.trans (HkA.out.put hb7)⟩
          case measure => simp [intOf]; omega
        · have hme : m = e := by omega
          have hltd : decide (m < e) = false := decide_eq_false hlt
          have HRe := Lib.hid HRk.out
          rw [hme] at HRe
          have HMe := Lib.hid hme
          clear hme hlt
          have hk2 : Keep (fun k => k = b0) wr ((wr.setCell ⟨b0, 1, none⟩ (.int .i64 2)).setCell ⟨b0, 4, none⟩ (.int .u64 e)) :=
            ((Keep.refl (fun k => k = b0) wr).setCell (p := ⟨b0, 1, none⟩) (Or.inl rfl) _).setCell (p := ⟨b0, 4, none⟩) (Or.inl rfl) _
          have g1 := heap_setCell_same wr b0 1 _ _ (.int .i64 2) HRe.out.cells
          have g2 := heap_setCell_same _ b0 4 _ _ (.int .u64 e) g1
          have hR8 := (HRe.out.turn (A' := leadL A e) hk2 (by simpa [leadL, leadQ] using g2) rfl rfl HRe.out.many ⟨HRe.out.num.1, HRe.out.num.2.1, ⟨e1, e2⟩⟩ (fun _ => by show A.stage ≠ 0; have := HSg.out; omega)).mono (M := N + 4097) (by omega)
          have HR8 := Lib.hid hR8
          have HK8 := Lib.hid hk2
          have hKl : (K ++ (List.range 4097).map (fun (k : Nat) => A.first + (k : Int))).length < 1000000 := by simp; omega
          have HOp := Lib.hid (lopen_any hR8 (by omega) hKl (fun a ha => by
            unfold leadL leadP at ha
            simp only at ha
            by_cases hin : A.first ≤ a ∧ a < e
            · refine List.mem_append_right _ (List.mem_map.2 ⟨(a - A.first).toNat, List.mem_range.2 (by omega), by omega⟩)
            · rw [if_neg hin] at ha
              exact List.mem_append_left _ (HKs.out a ha)))
          clear hk2 g1 g2 hR8 hKl
          go_wp2_with fail
          refine HOp.out.mono ?_
          rintro e9 w9 ⟨ks, ao, c, vs, hks, rfl, hs9⟩
          have HKy := Lib.hid hks
          have HS9 := Lib.hid hs9
          clear hks hs9
          go_wp2_with fail
          refine bodyPost_ret (v := .tuple #[.slice ao (opL (leadP A e) ks).length c, .bool true]) (by simp [results, Try.results58, go_sem, leadL]) rfl ?_
          exact Or.inr ⟨e, D1, _, ks, ao, c, vs, HEd.out.2, HEd.out.1, HR8.out, HMv.out.trans (Moved.of (HK8.out.mono (fun k _ e => by subst e; exact HRk.out.dr _ (Or.inl rfl)))), HKy.out, rfl, HS9.out⟩
    · intro x c kl yd yp w2 cnt2 hkey hlk hv hat hrg2 hlt hg2 hs2 hen
      obtain ⟨x', ex, rfl, hwf⟩ := Maps.keyOf_int_inv Try.underlying29 hkey
      obtain rfl : x = x' := by cases ex; rfl
      have ux : U1 x := by simp [Lit.wf, IntKind.min, IntKind.max, IntKind.signed, IntKind.bits] at hwf; exact ⟨hwf.1, by omega⟩
      have hkp2 : Keep (fun k => w.heap.size ≤ k) w w2 := HKp.out.trans (Keep.grown hg2 (fun k hk => by cases hk; exact Nat.le_refl _))
      have hb2 : Below w.heap.size w w2 := hkp2.below (Nat.le_refl _) (fun k hk => hk)
      have hR2 := H.out.below hb2 (Nat.le_refl _)
      obtain ⟨⟨_, _, _, d3, _, _, _, _⟩, _⟩ := hR2.cell
      have HR2 := Lib.hid hR2
      have HB2 := Lib.hid hb2
      have HKp2 := Lib.hid hkp2
      have HLk := Lib.hid hlk
      clear hR2 hb2 hat hlk hg2 hs2 hkey hwf hkp2
      have HRg := Lib.hid hrg2
      obtain ⟨x0, x1⟩ := id ux
      by_cases hxf : x < A.first
      · go_wp2_with fail
        go_roundw
        case rel => exact ⟨e, _, _, rfl, hrg2, HE.out.skip hxf, HKp2.out⟩
        case measure => rw [hrg2.left_eq, hrg.left_eq]; omega
      · have hxd : decide (x < A.first) = false := decide_eq_false hxf
        obtain ⟨f1, f2⟩ := hU
        have hw1 : IntKind.u64.wrap (x - A.first) = x - A.first := IntWalk.u64_in _ (by omega)
        by_cases hxm : x = 18446744073709551615
        · have hxe : (x == 18446744073709551615) = true := by rw [beq_iff_eq]; exact hxm
          have HFar : Hid (farL A) := Lib.hid ⟨x, HE.out.2.2.2 x ux HLk.out, by omega, Or.inl hxm⟩
          have HStop := Lib.hid (lstop_any HR2.out)
          clear hxm
          go_wp2_with fail
          refine HStop.out.mono ?_
          rintro e3 w3 ⟨rfl, hA3, hk3⟩
          have HA3 := Lib.hid hA3
          have HK3 := Lib.hid hk3
          clear hA3 hk3
          go_wp2_with fail
          refine bodyPost_ret (v := .tuple #[.slice none 0 0, .bool false]) (by simp [results, Try.results58, go_sem]) rfl ?_
          exact Or.inl ⟨HFar.out, rfl, HA3.out, (Below.keep0 D HB2.out).trans (HK3.out.mono (fun k _ e => by subst e; exact H.out.dr _ (Or.inl rfl)))⟩
        · have hxe : (x == 18446744073709551615) = false := by rw [beq_eq_false_iff_ne]; exact hxm
          by_cases hx4 : 4096 ≤ x - A.first
          · have HFar : Hid (farL A) := Lib.hid ⟨x, HE.out.2.2.2 x ux HLk.out, by omega, Or.inr hx4⟩
            have HStop := Lib.hid (lstop_any HR2.out)
            go_wp2_with fail
            refine HStop.out.mono ?_
            rintro e3 w3 ⟨rfl, hA3, hk3⟩
            have HA3 := Lib.hid hA3
            have HK3 := Lib.hid hk3
            clear hA3 hk3
            go_wp2_with fail
            refine bodyPost_ret (v := .tuple #[.slice none 0 0, .bool false]) (by simp [results, Try.results58, go_sem]) rfl ?_
            exact Or.inl ⟨HFar.out, rfl, HA3.out, (Below.keep0 D HB2.out).trans (HK3.out.mono (fun k _ e => by subst e; exact H.out.dr _ (Or.inl rfl)))⟩
          · have hx4d : decide (4096 ≤ x - A.first) = false := decide_eq_false hx4
            have hw2 : IntKind.u64.wrap (x + 1) = x + 1 := IntWalk.u64_in _ (by omega)
            have HXm := Lib.hid hxm
            clear hxm
            go_wp2_with fail
            go_roundw
            case rel => exact ⟨max e (x + 1), _, _, rfl, hrg2, HE.out.take ux HLk.out (by omega) HXm.out (by omega), HKp2.out⟩
            case measure => rw [hrg2.left_eq, hrg.left_eq]; omega
end Go.Proofs.Ytjdjfhioobhcjaa
