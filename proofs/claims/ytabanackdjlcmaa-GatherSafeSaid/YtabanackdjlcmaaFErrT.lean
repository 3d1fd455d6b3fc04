/-
  Two states side by side.
-/
import Derived.Test.YtabanackdjlcmaaApl2
import Derived.Test.YtabanackdjlcmaaConf8
import Derived.Test.YtabanackdjlcmaaSpans
import Derived.Test.YtabanackdjlcmaaShards2
import Derived.Test.YtabanackdjlcmaaCmA
import Derived.Laws.StructEq
namespace Go.Proofs.Ytabanackdjlcmaa
open Go.ChangeShapes Go.WideShapes Go.ChangeAt Go.RowKit Go.Maps
set_option maxRecDepth 100000

def reT (F : FS) (g : Int → Int → Option Int) : FS := { F with told := g }
theorem rowsE_re (F : FS) (g : Int → Int → Option Int) (rs : Rw) : rowsE (reT F g) rs = rowsE F rs := by
  induction rs with
  | nil => rfl
  | cons r rs ih =>
    show (if rowE F r = 0 then rowsE (reT F g) rs else rowE F r) = if rowE F r = 0 then rowsE F rs else rowE F r
    rw [ih]
theorem cutE_re (F : FS) (g : Int → Int → Option Int) (rs : Rw) : cutE (reT F g) rs = cutE F rs := by
  unfold cutE; rw [rowsE_re]; rfl
theorem sealE_re (F : FS) (g : Int → Int → Option Int) (id : Int) (rs : Rw) : sealE (reT F g) id rs = sealE F id rs := by
  unfold sealE; rw [cutE_re]; rfl
theorem doE_re (F : FS) (g : Int → Int → Option Int) (c : Cm) : doE (reT F g) c = doE F c := by
  unfold doE; rw [cutE_re, sealE_re]; rfl
theorem doF_re (F : FS) (g : Int → Int → Option Int) (c : Cm) : doF (reT F g) c = reT (doF F c) g := by
  unfold doF
  split
  · unfold addR; show (match F.sh c.shard with | none => _ | some _ => _) = _; cases h : F.sh c.shard <;> simp only [] <;> rfl
  split
  · unfold sealR; rw [sealE_re]; split <;> rfl
  split
  · unfold trimR; show (if c.pos ≤ F.n then _ else _) = _; split <;> rfl
  split
  · unfold cutR; rw [cutE_re]; split <;> rfl
  · rfl
theorem doF_told (F : FS) (c : Cm) : (doF F c).told = F.told := by
  unfold doF
  split
  · unfold addR; cases h : F.sh c.shard <;> rfl
  split
  · unfold sealR; split <;> rfl
  split
  · unfold trimR; split <;> rfl
  split
  · unfold cutR; split <;> rfl
  · rfl
theorem doF_no {F : FS} {c : Cm} (h : doE F c ≠ 0) : doF F c = F := by
  unfold doF; unfold doE at h
  split
  · rename_i h1
    rw [if_pos h1] at h
    unfold addR; unfold addE at h
    cases h2 : F.sh c.shard with
    | none => rw [h2] at h; exact absurd rfl h
    | some s => rfl
  rename_i h1; rw [if_neg h1] at h
  split
  · rename_i h2; rw [if_pos h2] at h; unfold sealR; rw [if_neg h]
  rename_i h2; rw [if_neg h2] at h
  split
  · rename_i h3; rw [if_pos h3] at h; unfold trimR; unfold trimE at h
    by_cases h4 : c.pos ≤ F.n
    · rw [if_pos h4] at h; exact absurd rfl h
    · rw [if_neg h4]
  rename_i h3; rw [if_neg h3] at h
  split
  · rename_i h4; rw [if_pos h4] at h; unfold cutR; rw [if_neg h]
  · rfl
/-- One state was given all, the other what went through. -/
structure Twin (F G : FS) : Prop where
  same : G = reT F G.told
  told : ∀ a b, G.told a b = if F.told a b = some 0 then some 0 else none
  key : ∀ a b c d, wk a b = wk c d → F.told a b = F.told c d
theorem Twin.zero : Twin emptyFS emptyFS := ⟨rfl, fun _ _ => rfl, fun _ _ _ _ _ => rfl⟩
theorem Twin.told' {F G : FS} (h : Twin F G) {X Y : FS} (hY : Y = reT X Y.told) (hX : X.told = F.told) (hG : Y.told = G.told) : Twin X Y :=
  ⟨hY, by intro a b; rw [hG, hX]; exact h.told a b, by intro a b c d e; rw [hX]; exact h.key a b c d e⟩
theorem Twin.eqE {F G : FS} (h : Twin F G) (c : Cm) : doE G c = doE F c := by
  rw [h.same, doE_re]
theorem Twin.eqF {F G : FS} (h : Twin F G) (c : Cm) : doF G c = reT (doF F c) G.told := by
  rw [h.same, doF_re]; rfl
theorem Twin.both {F G : FS} (h : Twin F G) (c : Cm) : Twin (doF F c) (doF G c) := by
  refine h.told' ?_ (doF_told F c) (doF_told G c)
  rw [doF_told, h.eqF]
/-- What went through goes through again, and the two stay alike. -/
theorem Twin.ok {F G : FS} (h : Twin F G) {c : Cm} (h0 : applyE F c = 0) : applyE G c = 0 ∧ Twin (applyF F c) (applyF G c) := by
  unfold applyE at h0
  unfold applyE applyF
  by_cases h1 : checkB c = true
  · rw [if_pos h1] at h0
    simp only [if_pos h1]
    by_cases h2 : c.client = 0 ∧ c.seq = 0
    · rw [if_pos h2] at h0
      simp only [if_pos h2]
      exact ⟨by rw [h.eqE]; exact h0, h.both c⟩
    · rw [if_neg h2] at h0
      simp only [if_neg h2]
      have ht := h.told c.client c.seq
      cases h3 : F.told c.client c.seq with
      | some x =>
        rw [h3] at h0 ht
        simp only at h0
        subst h0
        rw [if_pos rfl] at ht
        rw [ht]
        exact ⟨rfl, h⟩
      | none =>
        rw [h3] at h0 ht
        simp only at h0
        rw [if_neg (by simp)] at ht
        rw [ht]
        simp only
        refine ⟨by rw [h.eqE]; exact h0, ?_⟩
        rw [h.eqE, h0]
        have hb := h.both c
        refine ⟨?_, ?_, ?_⟩
        · have := hb.same
          generalize doF G c = Y at *
          generalize doF F c = X at *
          rw [this]; rfl
        · intro a b
          unfold tellF
          by_cases h4 : wk a b = wk c.client c.seq
          · simp [h4]
          · simp only [if_neg h4]; exact hb.told a b
        · intro a b d e hw
          unfold tellF
          by_cases h4 : wk a b = wk c.client c.seq
          · have h5 : wk d e = wk c.client c.seq := hw ▸ h4
            simp only [if_pos h4, if_pos h5]
          · have h5 : ¬ wk d e = wk c.client c.seq := by rw [← hw]; exact h4
            simp only [if_neg h4, if_neg h5]; exact hb.key a b d e hw
  · rw [if_neg h1] at h0; exact absurd h0 (by decide)
/-- What was refused leaves the two alike. -/
theorem Twin.no {F G : FS} (h : Twin F G) {c : Cm} (h0 : applyE F c ≠ 0) : Twin (applyF F c) G := by
  unfold applyE at h0
  unfold applyF
  by_cases h1 : checkB c = true
  · rw [if_pos h1] at h0
    simp only [if_pos h1]
    by_cases h2 : c.client = 0 ∧ c.seq = 0
    · rw [if_pos h2] at h0
      simp only [if_pos h2]
      rw [doF_no h0]; exact h
    · rw [if_neg h2] at h0
      simp only [if_neg h2]
      cases h3 : F.told c.client c.seq with
      | some x => exact h
      | none =>
        rw [h3] at h0
        simp only at h0
        simp only
        rw [doF_no h0]
        refine ⟨?_, ?_, ?_⟩
        · have := h.same; generalize hg : G.told = g at *; rw [this]; rfl
        · intro a b
          unfold tellF
          by_cases h4 : wk a b = wk c.client c.seq
          · have h5 := h.told a b
            rw [h.key _ _ _ _ h4, h3] at h5
            rw [h5]
            simp [h4, h0]
          · simp only [if_neg h4]; exact h.told a b
        · intro a b d e hw
          unfold tellF
          by_cases h4 : wk a b = wk c.client c.seq
          · have h5 : wk d e = wk c.client c.seq := hw ▸ h4
            simp only [if_pos h4, if_pos h5]
          · have h5 : ¬ wk d e = wk c.client c.seq := by rw [← hw]; exact h4
            simp only [if_neg h4, if_neg h5]; exact h.key a b d e hw
  · rw [if_neg h1]; exact h
theorem rowsSp_len8 (F : FS) (rs : Rw) (h : ∀ r ∈ rs, r.2.length ≤ 8) : (rowsSp F rs).length ≤ 8 * rs.length := by
  induction rs with
  | nil => simp [rowsSp]
  | cons r rs ih =>
    have h1 := newSp_len (lensOf F r.1) r.1 r.2 r.2.length
    have h2 := h r (by simp)
    have h3 := ih (fun r hr => h r (by simp [hr]))
    have e : rowsSp F (r :: rs) = newSp (lensOf F r.1) r.1 r.2 r.2.length ++ rowsSp F rs := by simp [rowsSp, rowSp]
    rw [e, List.length_append, List.length_cons]; omega
theorem cutF_len (F : FS) (rs : Rw) (h : ∀ r ∈ rs, r.2.length ≤ 8) : (cutF F rs).l.length ≤ F.l.length + 8 * rs.length := by
  have := rowsSp_len8 F rs h
  show (F.l ++ posSp F.n (rowsSp F rs)).length ≤ _
  rw [List.length_append, posSp_len]; omega
theorem doF_len (F : FS) (c : Cm) (h : ∀ r ∈ c.rows, r.2.length ≤ 8) : (doF F c).l.length ≤ F.l.length + 8 * c.rows.length := by
  have hc := cutF_len F c.rows h
  unfold doF
  split
  · unfold addR; cases h : F.sh c.shard <;> simp [putS]
  split
  · unfold sealR; split
    · exact hc
    · omega
  split
  · unfold trimR; split <;> simp [trimF]
  split
  · unfold cutR; split
    · exact hc
    · omega
  · omega
theorem applyF_len (F : FS) (c : Cm) (h : ∀ r ∈ c.rows, r.2.length ≤ 8) : (applyF F c).l.length ≤ F.l.length + 8 * c.rows.length := by
  have hd := doF_len F c h
  unfold applyF
  split
  · split
    · exact hd
    · split
      · omega
      · exact hd
  · omega
end Go.Proofs.Ytabanackdjlcmaa

namespace Go.Proofs.Ytabanackdjlcmaa
open Go.ChangeShapes Go.WideShapes Go.ChangeAt Go.RowKit Go.Maps
set_option maxRecDepth 100000

def rowShort (r : Int × List Int) : Bool := decide (r.2.length ≤ 8)
def shortB (rs : Rw) : Bool := decide (rs.length ≤ 12) && rs.all rowShort
theorem short_take (rs : Rw) (k : Nat) (r : Int × List Int) (h : rs[k]? = some r) (hp : (rs.take k).all rowShort = true) (hr : r.2.length ≤ 8) : (rs.take (k + 1)).all rowShort = true := by
  obtain ⟨hlt, e⟩ := List.getElem?_eq_some_iff.1 h
  rw [List.take_succ_eq_append_getElem hlt, List.all_append, hp, e]
  simp [rowShort, hr]
theorem short_iff {rs : Rw} (h : shortB rs = true) : rs.length ≤ 12 ∧ ∀ r ∈ rs, r.2.length ≤ 8 := by
  unfold shortB at h
  simp only [Bool.and_eq_true, decide_eq_true_eq, List.all_eq_true, rowShort] at h
  exact h
set_option maxHeartbeats 1000000 in
theorem short_any {w : World} {c : Cm} {v : Value} (hv : RowsL w v c.rows) :
    Calls Try.prog 32 #[cmV c v] w fun e w' => e = .returned (.bool (shortB c.rows)) ∧ Below w.heap.size w w' := by
  obtain ⟨op, client, seq, shard, segs, pos, rs⟩ := c
  simp only at hv
  unfold cmV
  simp only
  have HV := Lib.hid hv
  obtain ⟨ao, c, rfl, hc1, hc2, _⟩ := id hv
  clear hv
  by_cases hl : rs.length ≤ 12
  rotate_left
  · have hd : (12 : Int) < (rs.length : Int) := by omega
    have hR : shortB rs = false := by unfold shortB; rw [decide_eq_false hl]; rfl
    rw [hR]
    go_enter Try.func32, Try.ntmps32
    go_wp2_with fail
    go_ret
    exact ⟨rfl, (Below.refl _ _).alloc (Nat.le_refl _) _⟩
  · have hd : decide ((12 : Int) < (rs.length : Int)) = false := decide_eq_false (by omega)
    have HL := Lib.hid hl
    go_enter Try.func32, Try.ntmps32
    go_wp2_with fail
    have hvb := HV.out.below ((Below.refl w.heap.size w).alloc (Nat.le_refl _) (.cells #[.int .i64 op, .int .u64 client, .int .u64 seq, .int .i64 shard, .int .i64 segs, .int .u64 pos, .slice ao rs.length c] 46)) (Nat.le_refl _)
    have HVB := Lib.hid hvb
    clear hvb
    go_loopw [3] (fun i wr => ∃ k : Nat, k ≤ rs.length ∧ i = .int .i64 k ∧ (rs.take k).all rowShort = true ∧ Below (w.heap.size + 1) (w.alloc (.cells #[.int .i64 op, .int .u64 client, .int .u64 seq, .int .i64 shard, .int .i64 segs, .int .u64 pos, .slice ao rs.length c] 46)) wr) (fun i _ => rs.length - (intOf i).toNat)
    case atStart => exact ⟨0, by omega, rfl, rfl, Below.refl _ _⟩
    case round =>
      obtain ⟨k, hk, rfl, hsm, hbl⟩ := hrel
      have HB := Lib.hid hbl
      have HSm := Lib.hid hsm
      have hc6 : wr.cell? ⟨w.heap.size, 6, none⟩ = some (.slice ao rs.length c) := (hbl.cell (p := ⟨w.heap.size, 6, none⟩) (by simp)).trans (World.news_of_block (heap_alloc_new w _) 6 _ rfl)
      clear hbl hsm
      by_cases hlt : k < rs.length
      · obtain ⟨a, so, sc, rfl, q0, q1, hs, hs1, hs2⟩ := (HVB.out.below HB.out (by simp)).at k _ (List.getElem?_eq_getElem hlt)
        have hst := short_take rs k _ (List.getElem?_eq_getElem hlt) HSm.out
        have hmem := List.getElem_mem hlt
        generalize rs[k] = r at *
        obtain ⟨s, xs⟩ := r
        simp only at q0 q1 hs hs1 hst
        have HSt := Lib.hid hst
        have HMm := Lib.hid hmem
        clear hs hst hmem
        by_cases hx : xs.length ≤ 8
        · have hxd : decide ((8 : Int) < (xs.length : Int)) = false := decide_eq_false (by omega)
          have HYes := Lib.hid (HSt.out hx)
          go_wp2_with fail
          go_roundw
          case rel => exact ⟨k + 1, by omega, by go_num, HYes.out, HB.out⟩
          case measure => simp [intOf]; omega
        · have hxd : (8 : Int) < (xs.length : Int) := by omega
          have HNo : Hid (shortB rs = false) := Lib.hid (by
            unfold shortB
            have : rs.all rowShort = false := by rw [List.all_eq_false]; exact ⟨_, HMm.out, by simp [rowShort]; omega⟩
            rw [this, Bool.and_false])
          go_wp2_with fail
          go_ret
          exact ⟨by rw [HNo.out]; rfl, ((Below.refl _ _).alloc (Nat.le_refl _) _).trans (HB.out.mono (by simp))⟩
      · have hkl : k = rs.length := by omega
        subst hkl
        rw [List.take_length] at HSm
        have HYes : Hid (shortB rs = true) := Lib.hid (by unfold shortB; rw [HSm.out, decide_eq_true HL.out]; rfl)
        go_wp2_with fail
        go_ret
        exact ⟨by rw [HYes.out]; rfl, ((Below.refl _ _).alloc (Nat.le_refl _) _).trans (HB.out.mono (by simp))⟩
end Go.Proofs.Ytabanackdjlcmaa

namespace Go.Proofs.Ytabanackdjlcmaa
open Go.ChangeShapes Go.WideShapes Go.ChangeAt Go.RowKit Go.Maps
set_option maxRecDepth 100000

/-- A state, as a thing. -/
def obFd (p : Value) (D : Nat → Prop) (N : Nat) (F : FS) : Ob := ⟨D, fun w => FoldO p D w N F⟩
theorem obFd_good (p : Value) (D : Nat → Prop) (N : Nat) (F : FS) : (obFd p D N F).Good :=
  ⟨fun {S w w'} h hk hs => by obtain ⟨b0, bs, bt, n, lv, h1, h2, h3⟩ := h; exact ⟨b0, bs, bt, n, lv, h1, h2.keep hk hs, h3⟩, fun {w} h k hk => FoldO.lt h k hk⟩
/-- Two states that the call has made. -/
def FoldTwo (W : World) (p q : Value) (w : World) (N M : Nat) (F G : FS) : Prop := ∃ D E, Sep W.heap.size w [obFd p D N F, obFd q E M G] ∧ Below W.heap.size W w
section
variable {W w w' : World} {p q : Value} {N M : Nat} {F G : FS}
theorem FoldTwo.below (h : FoldTwo W p q w N M F G) : Below W.heap.size W w := by obtain ⟨_, _, _, hb⟩ := h; exact hb
theorem FoldTwo.swap (h : FoldTwo W p q w N M F G) : FoldTwo W q p w M N G F := by
  obtain ⟨D, E, h1, h2⟩ := h
  exact ⟨E, D, h1.perm (List.Perm.swap _ _ _), h2⟩
theorem FoldTwo.step (h : FoldTwo W p q w N M F G) (hb : Below w.heap.size w w') : FoldTwo W p q w' N M F G := by
  obtain ⟨D, E, h1, h2⟩ := h
  exact ⟨D, E, h1.step hb, h2.trans (hb.mono h2.size)⟩
theorem FoldTwo.one (h : FoldTwo W p q w N M F G) : FoldW W p w N F := by
  obtain ⟨D, E, h1, h2⟩ := h
  exact ⟨D, h1.get 0 rfl, fun k hk => h1.base _ (List.mem_cons_self ..) k hk, h2⟩
theorem FoldTwo.more (h : FoldTwo W p q w N M F G) {N' M' : Nat} (h1 : N ≤ N') (h2 : M ≤ M') : FoldTwo W p q w N' M' F G := by
  obtain ⟨D, E, hs, hb⟩ := h
  refine ⟨D, E, ⟨?_, ?_, ?_, ?_, hs.size⟩, hb⟩
  · intro o ho; simp at ho; rcases ho with rfl | rfl <;> exact obFd_good ..
  · intro o ho
    simp at ho
    rcases ho with rfl | rfl
    · obtain ⟨b0, bs, bt, n, lv, g1, g2, g3⟩ := hs.get 0 rfl; exact ⟨b0, bs, bt, n, lv, g1, g2, by omega⟩
    · obtain ⟨b0, bs, bt, n, lv, g1, g2, g3⟩ := hs.get 1 rfl; exact ⟨b0, bs, bt, n, lv, g1, g2, by omega⟩
  · intro o ho k hk
    simp at ho
    rcases ho with rfl | rfl
    · exact hs.base (obFd p D N F) (by simp) k hk
    · exact hs.base (obFd q E M G) (by simp) k hk
  · have := hs.apart
    simp only [List.pairwise_cons, List.mem_singleton, forall_eq, List.not_mem_nil, false_implies, implies_true, List.Pairwise.nil, and_true] at this ⊢
    exact this
theorem two_start {w1 w2 : World} {p q : Value} {N M : Nat} {F G : FS} (h : FoldW W p w1 N F) (hb : Below w1.heap.size w1 w2) {E : Nat → Prop} (hq : FoldO q E w2 M G) (hE : ∀ k, E k → w1.heap.size ≤ k) : FoldTwo W p q w2 N M F G := by
  obtain ⟨D, h1, h2, h3⟩ := h
  have hs : Sep W.heap.size w1 [obFd p D N F] := ⟨by intro o ho; simp at ho; subst ho; exact obFd_good .., by intro o ho; simp at ho; subst ho; exact h1, by intro o ho k hk; simp at ho; subst ho; exact h2 k hk, List.pairwise_singleton _ _, h3.size⟩
  have h4 := hs.new (o := obFd q E M G) hb (obFd_good ..) hq hE
  exact ⟨D, E, h4.perm (List.Perm.swap _ _ _), h3.trans (hb.mono h3.size)⟩
theorem FoldTwo.apply (h : FoldTwo W p q w N M F G) {c : Cm} {v : Value} (hv : RowsL W v c.rows) (hl : c.rows.length ≤ 1000000) (hc : CmOk c) (hFl : F.l.length ≤ 1000000000) (hN : N ≤ 900000) :
    Calls Try.prog 25 #[p, cmV c v] w fun e w' => e = .returned (.int .i64 (applyE F c)) ∧ FoldTwo W p q w' (N + 10) M (applyF F c) G := by
  obtain ⟨D, E, h1, h2⟩ := h
  have h0 : FoldO p D w N F := h1.get 0 rfl
  have hD : ∀ k, D k → W.heap.size ≤ k := fun k hk => h1.base (obFd p D N F) (by simp) k hk
  refine (h0.apply (v := v) (c := c) (fun w' hk => hv.below (h2.trans (hk.below h2.size hD)) (Nat.le_refl _)) hl hc hFl hN).mono ?_
  rintro e w' ⟨rfl, D', hf, hm⟩
  exact ⟨rfl, D', E, h1.head hm.keep (obFd_good ..) hf (fun k hk => hm.new k hk), h2.trans (hm.keep.below h2.size hD)⟩
end
theorem neqSq (s : Sp) (w : World) : (binOp .neq 60 (spV s) (spV s)).run Try.prog w = Result.ok (.bool false) w := by
  have u3 := Try.underlying3
  have u4 := Try.underlying39
  have hS : Try.prog.underlying 60 = some (.struct (Try.prog.fieldsOf 60)) := by kernel_rfl
  have hp : Try.prog.stoodInHeld 60 = false := by kernel_rfl
  rw [run_neq_struct, show (10000 : Nat) = 9999 + 1 from rfl, run_equalIn_agg w 9999 60 _ _ hS hp]
  simp only [Program.fieldsOf, Try.underlying60]
  go_simp
theorem Twin.shL {F G : FS} (h : Twin F G) : (shL G).length = (shL F).length := by rw [h.same]; rfl
theorem Twin.rest {F G : FS} (h : Twin F G) : G.l = F.l ∧ G.n = F.n ∧ G.low = F.low := by rw [h.same]; exact ⟨rfl, rfl, rfl⟩
theorem CmL.at {w : World} {ao : Option Addr} {n c : Nat} {L : List Cm} (h : CmL w (.slice ao n c) L) (k : Nat) (x : Cm) (hx : L[k]? = some x) : ∃ a, ao = some a ∧ CmAt w a k x := by
  obtain ⟨a', c', hv, _, _, h3⟩ := h
  cases hv
  exact h3 k x hx
theorem CmL.form {w : World} {v : Value} {L : List Cm} (h : CmL w v L) : ∃ ao c, v = .slice ao L.length c ∧ L.length ≤ c ∧ c ≤ 9223372036854775807 := by
  obtain ⟨a', c', hv, h1, h2, h3⟩ := h
  exact ⟨a', c', hv, h1, h2⟩
/-- A command of the caller's: its cells and rows, whatever the call has done since. -/
theorem CmL.far {W : World} {ao : Option Addr} {n c : Nat} {L : List Cm} (h : CmL W (.slice ao n c) L) (k : Nat) (x : Cm) (hx : L[k]? = some x) : ∃ a rv, ao = some a ∧ RowsL W rv x.rows ∧ ∀ w, Below W.heap.size W w →
    (w.cell? (a.add (k * 7)) = some (.int .i64 x.op) ∧ w.cell? ⟨(a.add (k * 7)).block, (a.add (k * 7)).off + 1, none⟩ = some (.int .u64 x.client) ∧ w.cell? ⟨(a.add (k * 7)).block, (a.add (k * 7)).off + 2, none⟩ = some (.int .u64 x.seq) ∧
    w.cell? ⟨(a.add (k * 7)).block, (a.add (k * 7)).off + 3, none⟩ = some (.int .i64 x.shard) ∧ w.cell? ⟨(a.add (k * 7)).block, (a.add (k * 7)).off + 4, none⟩ = some (.int .i64 x.segs) ∧ w.cell? ⟨(a.add (k * 7)).block, (a.add (k * 7)).off + 5, none⟩ = some (.int .u64 x.pos) ∧ w.cell? ⟨(a.add (k * 7)).block, (a.add (k * 7)).off + 6, none⟩ = some rv) := by
  obtain ⟨a, ha, rv, c0, c1, c2, c3, c4, c5, c6, hr⟩ := h.at k x hx
  refine ⟨a, rv, ha, hr, fun w hb => ?_⟩
  have go : ∀ {p : Addr} {u : Value}, W.cell? p = some u → w.cell? p = some u := fun {p u} hc => by rw [hb.cell (World.block_lt_of_cell? W _ hc)]; exact hc
  exact ⟨go c0, go c1, go c2, go c3, go c4, go c5, go c6⟩
end Go.Proofs.Ytabanackdjlcmaa
