/-
  Package leader: Promise, where it is noted.
-/
import Derived.Test.YtjdjfhioobhcjaaLeaL
import Derived.Test.YtjdjfhioobhcjaaAcc5
namespace Go.Proofs.Ytjdjfhioobhcjaa
open Go.ChangeShapes Go.WideShapes Go.ChangeAt Go.RowKit Go.Maps
set_option maxRecDepth 100000

/-- A vote that is told plays a part if none of its ballot or a greater one is known for its slot. -/
def newer (A : LS) (v : Vt) : Bool := match A.kn v.slot with | none => true | some o => decide (o.ballot < v.ballot)
def addV (A : LS) (v : Vt) : LS := if newer A v = true then knP A v else A
def promL (A : LS) (n : Nat) (low : Int) : LS := ⟨A.many, A.stage, A.ballot, max A.first low, A.next, addK A.prom n, A.kn, A.op⟩
def promV (A : LS) (n : Nat) (low : Int) (vs : List Vt) : LS := vs.foldl addV (promL A n low)
def VtsOk (vs : List Vt) : Prop := ∀ v ∈ vs, U1 v.slot ∧ U1 v.ballot ∧ U8 v.val ∧ v.val.length ≤ 1000000
theorem promV_succ {A : LS} {n : Nat} {low : Int} {vs : List Vt} {k : Nat} {s : Vt} (h : vs[k]? = some s) : promV A n low (vs.take (k + 1)) = addV (promV A n low (vs.take k)) s := by
  obtain ⟨h1, h2⟩ := List.getElem?_eq_some_iff.1 h
  unfold promV
  rw [List.take_succ_eq_append_getElem h1, h2, List.foldl_append]
  rfl
theorem addV_keeps (A : LS) (v : Vt) : (addV A v).many = A.many ∧ (addV A v).stage = A.stage ∧ (addV A v).ballot = A.ballot ∧ (addV A v).first = A.first ∧ (addV A v).next = A.next ∧ (addV A v).prom = A.prom ∧ (addV A v).op = A.op := by
  unfold addV
  split
  · exact ⟨rfl, rfl, rfl, rfl, rfl, rfl, rfl⟩
  · exact ⟨rfl, rfl, rfl, rfl, rfl, rfl, rfl⟩
theorem foldV_keeps (vs : List Vt) : ∀ A : LS, (vs.foldl addV A).many = A.many ∧ (vs.foldl addV A).stage = A.stage ∧ (vs.foldl addV A).ballot = A.ballot ∧ (vs.foldl addV A).first = A.first ∧ (vs.foldl addV A).next = A.next ∧ (vs.foldl addV A).prom = A.prom ∧ (vs.foldl addV A).op = A.op := by
  induction vs with
  | nil => intro A; exact ⟨rfl, rfl, rfl, rfl, rfl, rfl, rfl⟩
  | cons v vs ih =>
    intro A
    obtain ⟨h1, h2, h3, h4, h5, h6, h7⟩ := ih (addV A v)
    obtain ⟨g1, g2, g3, g4, g5, g6, g7⟩ := addV_keeps A v
    exact ⟨h1.trans g1, h2.trans g2, h3.trans g3, h4.trans g4, h5.trans g5, h6.trans g6, h7.trans g7⟩
theorem promV_prom (A : LS) (n : Nat) (low : Int) (vs : List Vt) : (promV A n low vs).prom = addK A.prom n := (foldV_keeps vs (promL A n low)).2.2.2.2.2.1
theorem promV_many (A : LS) (n : Nat) (low : Int) (vs : List Vt) : (promV A n low vs).many = A.many := (foldV_keeps vs (promL A n low)).1
theorem newer_none {A : LS} {s : Vt} (h : A.kn s.slot = none) : newer A s = true := by unfold newer; rw [h]
theorem newer_some {A : LS} {s o : Vt} (h : A.kn s.slot = some o) : newer A s = decide (o.ballot < s.ballot) := by unfold newer; rw [h]
def PsC (b0 bk : Nat) (wr : World) (s : Vt) (so : Option Addr) (sc : Nat) (wm : World) : Prop := wm.cell? ⟨b0, 6, none⟩ = some (.map (some bk)) ∧ wm.cell? ⟨wr.heap.size, 0, none⟩ = some (.int .u64 s.slot) ∧ wm.cell? ⟨wr.heap.size, 1, none⟩ = some (.int .u64 s.ballot) ∧ wm.cell? ⟨wr.heap.size, 2, none⟩ = some (.slice so s.val.length sc)
theorem promStep {D : Nat → Prop} {wr W1 : World} {b0 bk N : Nat} {lo : Option Nat} {A : LS} {s : Vt} {so : Option Addr} {sc : Nat} {f : Lit → Option Value} (hR : LeaR wr D b0 (some bk) lo N A) (hf : MapR wr Try.prog 29 bk N f) (us : U1 s.slot) (hN : N < 1000000) (hb : Below wr.heap.size wr W1)
    (hv : W1.heap[wr.heap.size]? = some (.cells #[.int .u64 s.slot, .int .u64 s.ballot, .slice so s.val.length sc] 39 (0, 0))) :
    ∀ wm, Below W1.heap.size W1 wm → PsC b0 bk wr s so sc wm ∧ ∀ vm, ∃ w2, (Instr.mapUpdate 105 (.map (some bk)) (.int .u64 s.slot) vm).run Try.prog wm = .ok () w2 ∧ MapR w2 Try.prog 29 bk (N + 1) (putF f (.int .u64 s.slot) vm) ∧ wm.grownBy w2 (some bk) ∧ PsC b0 bk wr s so sc w2 := by
  intro wm hbm
  have hbk := LR_lt hR bk (Or.inr (Or.inl rfl))
  have hne := hR.ne.1 bk rfl
  have hsz := (Array.getElem?_eq_some_iff.1 hv).1
  have hbx := hb.trans (hbm.mono hb.size)
  have hvm := (hbm.block wr.heap.size hsz).trans hv
  obtain ⟨⟨_, _, _, _, _, _, e6, _⟩, _⟩ := (hR.below hbx (Nat.le_refl _)).cell
  have c0 : wm.cell? ⟨wr.heap.size, 0, none⟩ = some (.int .u64 s.slot) := World.news_of_block hvm 0 _ rfl
  have c1 : wm.cell? ⟨wr.heap.size, 1, none⟩ = some (.int .u64 s.ballot) := World.news_of_block hvm 1 _ rfl
  have c2 : wm.cell? ⟨wr.heap.size, 2, none⟩ = some (.slice so s.val.length sc) := World.news_of_block hvm 2 _ rfl
  refine ⟨⟨e6, c0, c1, c2⟩, fun vm => ?_⟩
  obtain ⟨w2, g1, g2, g3⟩ := (hf.same (hbx.block bk hf.lt)).store uKeyed Try.underlying105 (by unfold maxLen; omega) (u_key us) (val := vm) (by trivial)
  exact ⟨w2, g1, g2, g3, g3.cell e6 (by simp; omega), g3.cell c0 (by simp; omega), g3.cell c1 (by simp; omega), g3.cell c2 (by simp; omega)⟩
theorem promV_stage (A : LS) (n : Nat) (low : Int) (vs : List Vt) : (promV A n low vs).stage = A.stage := (foldV_keeps vs (promL A n low)).2.1
theorem promV_op (A : LS) (n : Nat) (low : Int) (vs : List Vt) : (promV A n low vs).op = A.op := (foldV_keeps vs (promL A n low)).2.2.2.2.2.2
/-- What a promise that is noted comes to. -/
def RetPm (D : Nat → Prop) (b0 bk bl N : Nat) (A : LS) (w : World) (e : Ending) (w' : World) : Prop :=
  (¬ A.many / 2 < cnt 32 A.prom ∧ e = .returned (.tuple #[.slice none 0 0, .bool false]) ∧ ∃ D', LeaR w' D' b0 (some bk) (some bl) N A ∧ Moved D D' w w') ∨
  (A.many / 2 < cnt 32 A.prom ∧ ∃ D1 w1, LeaR w1 D1 b0 (some bk) (some bl) N A ∧ Moved D D1 w w1 ∧ RetLd D1 b0 bk bl N A w1 e w')
set_option maxHeartbeats 4000000 in
theorem lprom_ok {D : Nat → Prop} {w : World} {b0 bk bl N : Nat} {A : LS} (h : LeaR w D b0 (some bk) (some bl) N A) {n : Nat} {b low : Int} {v : Value} {hs : List Vt} (hyes : A.stage = 1 ∧ b = A.ballot ∧ 0 ≤ (n : Int) ∧ (n : Int) < A.many) (hp : A.prom n = false) (ul : U1 low)
    (hv : ∀ w', Keep D w w' → VtL w' v hs) (ho : VtsOk hs) (hN : N + hs.length < 900000) {K : List Int} (hK : K.length < 900000) (hKs : ∀ a, (A.op a).isSome = true → a ∈ K) :
    Calls Try.prog 33 #[.pointer (some ⟨b0, 0, none⟩), .int .i64 n, .int .u64 b, .int .u64 low, v] w (RetPm D b0 bk bl (N + hs.length) (promV A n low hs) w) := by
  have HI := Lib.hid (lis_any h 1 n b)
  have hd : decide (A.stage = 1 ∧ b = A.ballot ∧ 0 ≤ (n : Int) ∧ (n : Int) < A.many) = true := decide_eq_true hyes
  rw [hd] at HI
  have hm' := h.many
  have hn32 : n < 32 := by omega
  obtain ⟨⟨c0, c1, c2, c3, c4, c5, c6, c7⟩, hz⟩ := h.cell
  have z3 := hz 3
  have z5 := hz 5
  have hand := bit_of (f := A.prom) hn32
  rw [if_neg (by rw [hp]; simp)] at hand
  have hor := or_msk2 (f := A.prom) hn32
  obtain ⟨vo, vc, rfl, hvc, hvm, _⟩ := hv w (Keep.refl _ _)
  have H := Lib.hid h
  have HV := Lib.hid hv
  have HO := Lib.hid ho
  have HStg := Lib.hid hyes.1
  have HKs := Lib.hid hKs
  clear h hyes hd hp hz hv ho hKs
  generalize hx : msk 32 A.prom = x at *
  have HX := Lib.hid hx
  clear hx
  go_enter Try.func33, Try.ntmps33
  go_wp2_with fail
  refine HI.out.mono ?_
  rintro e w1 ⟨rfl, rfl⟩
  go_wp2_with fail
  go_region
  go_wp2_with fail
  have hk1 : Keep (fun k => k = b0) w (((w.setCell ⟨b0, 5, none⟩ (.int .u32 (msk 32 (addK A.prom n)))).setCell ⟨b0, 3, none⟩ (.int .u64 (max A.first low)))).drew :=
    (((Keep.refl (fun k => k = b0) w).setCell (p := ⟨b0, 5, none⟩) (Or.inl rfl) _).setCell (p := ⟨b0, 3, none⟩) (Or.inl rfl) _).drew
  have e1 := heap_setCell_same w b0 5 _ _ (.int .u32 (msk 32 (addK A.prom n))) H.out.cells
  have e2 := heap_setCell_same _ b0 3 _ _ (.int .u64 (max A.first low)) e1
  have hR1 := H.out.turn (A' := promL A n low) hk1 (by unfold promL; have e3 := e2; simp at e3; exact e3) rfl rfl H.out.many ⟨H.out.num.1, by have h1 := H.out.num.2.1; obtain ⟨h1, h2⟩ := h1; obtain ⟨h3, h4⟩ := ul; exact ⟨by show 0 ≤ max A.first low; omega, by show max A.first low ≤ _; omega⟩, H.out.num.2.2⟩ (fun hs => hs)
  have HM1 : Hid (Moved D D w _) := Lib.hid (Moved.of (hk1.mono (fun k _ e => by subst e; exact H.out.dr _ (Or.inl rfl))))
  have HR1 := Lib.hid hR1
  clear hk1 e1 e2 hR1
  clear c0 c1 c2 c3 c4 c5 c6 c7 z3 z5 hand hor
  go_loopw [51, 13, 14, 15] (fun vi _ _ _ wr => ∃ (k : Nat) (D1 : Nat → Prop), k ≤ hs.length ∧ vi = .int .i64 k ∧ LeaR wr D1 b0 (some bk) (some bl) (N + k) (promV A n low (hs.take k)) ∧ Moved D D1 w wr) (fun vi _ _ _ _ => hs.length - (intOf vi).toNat)
  case atStart => exact ⟨0, D, by omega, rfl, HR1.out, HM1.out⟩
  case round =>
    clear HR1 HM1
    obtain ⟨k, D1, hk, rfl, hR, hMv⟩ := hrel
    have HR := Lib.hid hR
    have HMv := Lib.hid hMv
    clear hR hMv
    by_cases hlt : k < hs.length
    · have hki : (k : Int) < (hs.length : Int) := by omega
      obtain ⟨s, hks⟩ : ∃ s, hs[k]? = some s := ⟨_, List.getElem?_eq_getElem hlt⟩
      obtain ⟨us, ub, ux, lx⟩ := HO.out s (List.mem_of_getElem? hks)
      have HSt := Lib.hid (promV_succ (A := A) (n := n) (low := low) hks)
      generalize promV A n low (hs.take k) = A1 at *
      obtain ⟨ao', c', he, _, _, hx⟩ := HV.out wr HMv.out.keep
      cases he
      obtain ⟨a, sv, rfl, q0, q1, q2, hsl⟩ := hx k s hks
      obtain ⟨so, sc, rfl, hsc1, hsc2⟩ := hsl.form
      simp only [List.length_map] at hsl hsc1 q2
      have hb1 := (Below.refl wr.heap.size wr).alloc (Nat.le_refl _) (.cells #[.int .u64 s.slot, .int .u64 s.ballot, .slice so s.val.length sc] 39)
      have hb2 := hb1.alloc (by simp) (.cells #[.int .u64 0, .int .u64 0, .slice none 0 0] 39)
      obtain ⟨⟨_, _, _, _, _, _, d6, _⟩, _⟩ := (HR.out.below hb1.drew (Nat.le_refl _)).cell
      obtain ⟨⟨_, _, _, _, _, _, d6', _⟩, _⟩ := (HR.out.below hb2.drew (Nat.le_refl _)).cell
      obtain ⟨lo, lc, hlk0, _, hsl2, _, _, _, _, hlc1, hlc2⟩ := HR.out.lookK (slot := s.slot) us
      obtain ⟨f, hf, hvals, hvx⟩ := HR.out.kn.some_ bk rfl
      have hlk := hlk0 (wr.alloc (.cells #[.int .u64 s.slot, .int .u64 s.ballot, .slice so s.val.length sc] 39)).drew (hb1.block bk hf.lt)
      have hlk' := hlk0 ((wr.alloc (.cells #[.int .u64 s.slot, .int .u64 s.ballot, .slice so s.val.length sc] 39)).alloc (.cells #[.int .u64 0, .int .u64 0, .slice none 0 0] 39)).drew (hb2.block bk hf.lt)
      have hbk := LR_lt HR.out bk (Or.inr (Or.inl rfl))
      have hbb := LR_lt HR.out b0 (Or.inl rfl)
      have HSl := Lib.hid hsl
      have HVals := Lib.hid hvals
      have HVx := Lib.hid hvx
      have HF := Lib.hid hf
      clear hx hks hsl hlk0 hsl2 hvals hvx hf
      cases hkn : A1.kn s.slot with
      | none =>
        rw [hkn] at hlk hlk'
        have hkO : kOr A1 s.slot = ⟨0, 0, []⟩ := by unfold kOr; rw [hkn]; rfl
        rw [hkO] at hlk hlk'
        simp only [Option.isSome_none] at hlk hlk'
        have HB1 := Lib.hid hb1
        have HB2 := Lib.hid hb2
        clear hb1 hb2
        clear hkO
        have HKn := Lib.hid hkn
        clear hkn
        have HNew := Lib.hid (newer_none HKn.out)
        go_wp2_with fail
        go_region
        all_goals
          go_wp2_with fail
          obtain ⟨W1, hW1⟩ : ∃ x, x = ((wr.alloc (.cells #[.int .u64 s.slot, .int .u64 s.ballot, .slice so s.val.length sc] 39)).alloc (.cells #[.int .u64 0, .int .u64 0, .slice lo 0 lc] 39)).drew := ⟨_, rfl⟩
          rw [← hW1]
          have hbw : Below wr.heap.size wr W1 := by rw [hW1]; exact (HB1.out.alloc (by simp) _).drew
          have hvw : W1.heap[wr.heap.size]? = some (.cells #[.int .u64 s.slot, .int .u64 s.ballot, .slice so s.val.length sc] 39 (0, 0)) := by
            rw [hW1]; exact (Below.heap_alloc _ _ _ (by simp)).trans (heap_alloc_new wr _)
          have hst := promStep HR.out HF.out us (by omega) hbw.drew (show W1.drew.heap[wr.heap.size]? = _ from hvw)
          have hcS := (hst W1.drew (Below.refl _ _)).1
          unfold PsC at hcS
          have HStep := Lib.hid hst
          have HCp := Lib.hid (lcopied_any (v := s) ((HSl.out.below hbw (Nat.le_refl _)).below (Below.refl _ W1).drew (Nat.le_refl _)) (by omega))
          have HBw := Lib.hid hbw
          clear hW1 hbw hvw hst
          go_region_held3 (fun w' => w'.cell? ⟨b0, 6, none⟩ = some (.map (some bk)) ∧ w'.cell? ⟨wr.heap.size, 0, none⟩ = some (.int .u64 s.slot) ∧ w'.cell? ⟨wr.heap.size, 1, none⟩ = some (.int .u64 s.ballot) ∧ w'.cell? ⟨wr.heap.size, 2, none⟩ = some (.slice so s.val.length sc)) (first | go_keep | exact hcS | exact hcB | exact hcC)
            (first
              | (go_at_call 56
                 refine HCp.out.mono ?_
                 rintro e wm ⟨ko, kc, rfl, hown, hbx⟩
                 obtain ⟨hcB, hst2⟩ := HStep.out wm hbx
                 obtain ⟨w2, hrun, hm2, hg2, hcC⟩ := hst2 (.agg #[.int .u64 s.slot, .int .u64 s.ballot, .slice ko s.val.length kc])
                 unfold PsC at hcB hcC
                 have hown := Lib.hid hown
                 have hm2 := Lib.hid hm2
                 have hg2 := Lib.hid hg2
                 have hbx := Lib.hid hbx
                 clear hst2))
          clear hcS
          (try clear hcB hcC)
          obtain ⟨hA, hkA⟩ := HR.out.putK HBw.out.drew.size (HBw.out.drew.trans (hbx.out.mono HBw.out.drew.size)) hown.out hm2.out hg2.out HVals.out HVx.out us ub ux lx
          have HA := Lib.hid hA
          have HkA := Lib.hid hkA
          clear hA hkA
          go_wp2_with fail
          go_roundw
          case rel =>
            refine ⟨k + 1, _, by omega, by go_num, ?_, HMv.out.trans (HkA.out.put (HR.out.dr _ (Or.inr (Or.inl rfl))))⟩
            rw [HSt.out]; unfold addV; rw [if_pos HNew.out]; exact HA.out
          case measure => simp [intOf]; omega
      | some o =>
        rw [hkn] at hlk hlk'
        simp only [Option.isSome_some] at hlk hlk'
        have hnw := newer_some (s := s) hkn
        have hko := kOr_some hkn
        have HB1 := Lib.hid hb1
        have HB2 := Lib.hid hb2
        clear hb1 hb2 hkn
        by_cases hbl : o.ballot < s.ballot
        · have hbd : decide ((kOr A1 s.slot).ballot < s.ballot) = true := by rw [hko]; exact decide_eq_true hbl
          have HNew := Lib.hid (hnw.trans (decide_eq_true hbl))
          clear hnw hko hbl
          go_wp2_with fail
          go_region
          all_goals
            go_wp2_with fail
            obtain ⟨W1, hW1⟩ : ∃ x, x = ((wr.alloc (.cells #[.int .u64 s.slot, .int .u64 s.ballot, .slice so s.val.length sc] 39)).alloc (.cells #[.int .u64 (kOr A1 s.slot).slot, .int .u64 (kOr A1 s.slot).ballot, .slice lo (kOr A1 s.slot).val.length lc] 39)).drew := ⟨_, rfl⟩
            rw [← hW1]
            have hbw : Below wr.heap.size wr W1 := by rw [hW1]; exact (HB1.out.alloc (by simp) _).drew
            have hvw : W1.heap[wr.heap.size]? = some (.cells #[.int .u64 s.slot, .int .u64 s.ballot, .slice so s.val.length sc] 39 (0, 0)) := by
              rw [hW1]; exact (Below.heap_alloc _ _ _ (by simp)).trans (heap_alloc_new wr _)
            have hst := promStep HR.out HF.out us (by omega) hbw.drew (show W1.drew.heap[wr.heap.size]? = _ from hvw)
            have hcS := (hst W1.drew (Below.refl _ _)).1
            unfold PsC at hcS
            have HStep := Lib.hid hst
            have HCp := Lib.hid (lcopied_any (v := s) ((HSl.out.below hbw (Nat.le_refl _)).below (Below.refl _ W1).drew (Nat.le_refl _)) (by omega))
            have HBw := Lib.hid hbw
            clear hW1 hbw hvw hst
            go_region_held3 (fun w' => w'.cell? ⟨b0, 6, none⟩ = some (.map (some bk)) ∧ w'.cell? ⟨wr.heap.size, 0, none⟩ = some (.int .u64 s.slot) ∧ w'.cell? ⟨wr.heap.size, 1, none⟩ = some (.int .u64 s.ballot) ∧ w'.cell? ⟨wr.heap.size, 2, none⟩ = some (.slice so s.val.length sc)) (first | go_keep | exact hcS | exact hcB | exact hcC)
              (first
                | (go_at_call 56
                   refine HCp.out.mono ?_
                   rintro e wm ⟨ko, kc, rfl, hown, hbx⟩
                   obtain ⟨hcB, hst2⟩ := HStep.out wm hbx
                   obtain ⟨w2, hrun, hm2, hg2, hcC⟩ := hst2 (.agg #[.int .u64 s.slot, .int .u64 s.ballot, .slice ko s.val.length kc])
                   unfold PsC at hcB hcC
                   have hown := Lib.hid hown
                   have hm2 := Lib.hid hm2
                   have hg2 := Lib.hid hg2
                   have hbx := Lib.hid hbx
                   clear hst2))
            clear hcS
            (try clear hcB hcC)
            obtain ⟨hA, hkA⟩ := HR.out.putK HBw.out.drew.size (HBw.out.drew.trans (hbx.out.mono HBw.out.drew.size)) hown.out hm2.out hg2.out HVals.out HVx.out us ub ux lx
            have HA := Lib.hid hA
            have HkA := Lib.hid hkA
            clear hA hkA
            go_wp2_with fail
            go_roundw
            case rel =>
              refine ⟨k + 1, _, by omega, by go_num, ?_, HMv.out.trans (HkA.out.put (HR.out.dr _ (Or.inr (Or.inl rfl))))⟩
              rw [HSt.out]; unfold addV; rw [if_pos HNew.out]; exact HA.out
            case measure => simp [intOf]; omega
        · have hbd : decide ((kOr A1 s.slot).ballot < s.ballot) = false := by rw [hko]; exact decide_eq_false hbl
          have HNew := Lib.hid (hnw.trans (decide_eq_false hbl))
          clear hnw hko hbl
          go_wp2_with fail
          go_region
          all_goals
            go_wp2_with fail
            have hbw : Below wr.heap.size wr ((wr.alloc (.cells #[.int .u64 s.slot, .int .u64 s.ballot, .slice so s.val.length sc] 39)).alloc (.cells #[.int .u64 (kOr A1 s.slot).slot, .int .u64 (kOr A1 s.slot).ballot, .slice lo (kOr A1 s.slot).val.length lc] 39)).drew := (HB1.out.alloc (by simp) _).drew
            have HBw := Lib.hid hbw
            clear hbw
            go_roundw
            case rel =>
              refine ⟨k + 1, D1, by omega, by go_num, ?_, HMv.out.trans (Moved.of (Below.keep0 _ HBw.out))⟩
              rw [HSt.out]; unfold addV; rw [if_neg (by rw [HNew.out]; simp)]; exact (HR.out.below HBw.out (Nat.le_refl _)).mono (by omega)
            case measure => simp [intOf]; omega
    · have hkl : k = hs.length := by omega
      subst hkl
      have hkd : decide ((hs.length : Int) < (hs.length : Int)) = false := decide_eq_false (by omega)
      obtain ⟨⟨_, _, _, _, _, d5, _, _⟩, _⟩ := HR.out.cell
      have hpm : (promV A n low (hs.take hs.length)).prom = addK A.prom n := promV_prom ..
      have hmn : (promV A n low (hs.take hs.length)).many = A.many := promV_many ..
      rw [hpm] at d5
      have HMj := Lib.hid (lmajority_any HR.out (addK A.prom n))
      rw [hmn] at HMj
      rw [List.take_length] at HR
      have HPm := Lib.hid hpm
      have HMn := Lib.hid hmn
      clear hpm hmn hlt
      by_cases hmj : A.many / 2 < cnt 32 (addK A.prom n)
      · have HDm := Lib.hid (decide_eq_true hmj)
        have HMJ := Lib.hid hmj
        clear hmj
        go_wp2_with fail
        refine HMj.out.mono ?_
        rintro e w2 ⟨rfl, nd, rfl⟩
        rw [HDm.out]
        have hbn := below_drewN (Below.refl wr.heap.size wr) nd
        have hRn := HR.out.below hbn (Nat.le_refl _)
        have HLd := Lib.hid (lead_any hRn (by rw [promV_stage]; exact HStg.out) hN hK (by rw [promV_op]; exact HKs.out))
        have HRn := Lib.hid hRn
        have HMn2 : Hid (Moved D D1 w (wr.drewN nd)) := Lib.hid (HMv.out.trans (Moved.of (Below.keep0 _ hbn)))
        clear hbn hRn
        go_wp2_with fail
        refine HLd.out.mono ?_
        rintro e w3 h3
        rcases h3 with ⟨h31, rfl, h32, h33⟩ | ⟨en, D', w1, ks, ao, c, vs, h31, h32, h33, h34, h35, rfl, h36⟩
        · have H3 := Lib.hid (And.intro h31 (And.intro h32 h33))
          clear h31 h32 h33
          go_wp2_with fail
          refine bodyPost_ret (v := .tuple #[.slice none 0 0, .bool false]) (by simp [results, Try.results33, go_sem]) rfl ?_
          refine Or.inr ⟨?_, D1, _, HRn.out, HMn2.out, Or.inl ⟨H3.out.1, rfl, H3.out.2.1, H3.out.2.2⟩⟩
          have e1 := promV_prom A n low hs
          have e2 := promV_many A n low hs
          rw [e1, e2]; exact HMJ.out
        · have H3 := Lib.hid (And.intro h31 (And.intro h32 (And.intro h33 (And.intro h34 (And.intro h35 h36)))))
          clear h31 h32 h33 h34 h35 h36
          go_wp2_with fail
          refine bodyPost_ret (v := .tuple #[.slice ao (opL (leadP (promV A n low hs) en) ks).length c, .bool true]) (by simp [results, Try.results33, go_sem]) rfl ?_
          refine Or.inr ⟨?_, D1, _, HRn.out, HMn2.out, Or.inr ⟨en, D', w1, ks, ao, c, vs, H3.out.1, H3.out.2.1, H3.out.2.2.1, H3.out.2.2.2.1, H3.out.2.2.2.2.1, rfl, H3.out.2.2.2.2.2⟩⟩
          have e1 := promV_prom A n low hs
          have e2 := promV_many A n low hs
          rw [e1, e2]; exact HMJ.out
      · have HDm := Lib.hid (decide_eq_false hmj)
        have HMJ : Hid (¬ A.many / 2 < cnt 32 (addK A.prom n)) := Lib.hid hmj
        clear hmj
        go_wp2_with fail
        refine HMj.out.mono ?_
        rintro e w2 ⟨rfl, nd, rfl⟩
        rw [HDm.out]
        go_wp2_with fail
        refine bodyPost_ret (v := .tuple #[.slice none 0 0, .bool false]) (by simp [results, Try.results33, go_sem]) rfl ?_
        have hbn := below_drewN (Below.refl wr.heap.size wr) nd
        have e1 := promV_prom A n low hs
        have e2 := promV_many A n low hs
        exact Or.inl ⟨by rw [e1, e2]; have := HMJ.out; omega, rfl, D1, HR.out.below hbn (Nat.le_refl _), HMv.out.trans (Moved.of (Below.keep0 _ hbn))⟩
end Go.Proofs.Ytjdjfhioobhcjaa
