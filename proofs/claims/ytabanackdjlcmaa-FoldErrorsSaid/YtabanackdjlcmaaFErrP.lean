/-
  FoldErrors, plain: a state that was given all commands and one that was given those that went through.
-/
import Derived.Test.YtabanackdjlcmaaApl2
namespace Go.Proofs.Ytabanackdjlcmaa
open Go.ChangeShapes Go.WideShapes Go.ChangeAt Go.RowKit Go.Maps
set_option maxRecDepth 100000

def reT (F : FS) (g : Int → Int → Option Int) : FS := { F with told := g }
theorem rowsE_re (F : FS) (g : Int → Int → Option Int) (rs : Rw) : rowsE (reT F g) rs = rowsE F rs := by
  induction rs with
  | nil => rfl
  | cons r rs ih =>
    show (if rowE F r = 0 then rowsE (reT F g) rs else rowE F r) = if rowE F r = 0 then rowsE F rs else rowE F r
    rw [ih]
theorem cutE_re (F : FS) (g : Int → Int → Option Int) (rs : Rw) : cutE (reT F g) rs = cutE F rs := by
  unfold cutE; rw [rowsE_re]; rfl
theorem sealE_re (F : FS) (g : Int → Int → Option Int) (id : Int) (rs : Rw) : sealE (reT F g) id rs = sealE F id rs := by
  unfold sealE; rw [cutE_re]; rfl
theorem doE_re (F : FS) (g : Int → Int → Option Int) (c : Cm) : doE (reT F g) c = doE F c := by
  unfold doE; rw [cutE_re, sealE_re]; rfl
theorem doF_re (F : FS) (g : Int → Int → Option Int) (c : Cm) : doF (reT F g) c = reT (doF F c) g := by
  unfold doF
  split
  · unfold addR; show (match F.sh c.shard with | none => _ | some _ => _) = _; cases h : F.sh c.shard <;> simp only [] <;> rfl
  split
  · unfold sealR; rw [sealE_re]; split <;> rfl
  split
  · unfold trimR; show (if c.pos ≤ F.n then _ else _) = _; split <;> rfl
  split
  · unfold cutR; rw [cutE_re]; split <;> rfl
  · rfl
theorem doF_told (F : FS) (c : Cm) : (doF F c).told = F.told := by
  unfold doF
  split
  · unfold addR; cases h : F.sh c.shard <;> rfl
  split
  · unfold sealR; split <;> rfl
  split
  · unfold trimR; split <;> rfl
  split
  · unfold cutR; split <;> rfl
  · rfl
theorem doF_no {F : FS} {c : Cm} (h : doE F c ≠ 0) : doF F c = F := by
  unfold doF; unfold doE at h
  split
  · rename_i h1
    rw [if_pos h1] at h
    unfold addR; unfold addE at h
    cases h2 : F.sh c.shard with
    | none => rw [h2] at h; exact absurd rfl h
    | some s => rfl
  rename_i h1; rw [if_neg h1] at h
  split
  · rename_i h2; rw [if_pos h2] at h; unfold sealR; rw [if_neg h]
  rename_i h2; rw [if_neg h2] at h
  split
  · rename_i h3; rw [if_pos h3] at h; unfold trimR; unfold trimE at h
    by_cases h4 : c.pos ≤ F.n
    · rw [if_pos h4] at h; exact absurd rfl h
    · rw [if_neg h4]
  rename_i h3; rw [if_neg h3] at h
  split
  · rename_i h4; rw [if_pos h4] at h; unfold cutR; rw [if_neg h]
  · rfl
/-- One state was given all, the other what went through. -/
structure Twin (F G : FS) : Prop where
  same : G = reT F G.told
  told : ∀ a b, G.told a b = if F.told a b = some 0 then some 0 else none
  key : ∀ a b c d, wk a b = wk c d → F.told a b = F.told c d
theorem Twin.zero : Twin emptyFS emptyFS := ⟨rfl, fun _ _ => rfl, fun _ _ _ _ _ => rfl⟩
theorem Twin.told' {F G : FS} (h : Twin F G) {X Y : FS} (hY : Y = reT X Y.told) (hX : X.told = F.told) (hG : Y.told = G.told) : Twin X Y :=
  ⟨hY, by intro a b; rw [hG, hX]; exact h.told a b, by intro a b c d e; rw [hX]; exact h.key a b c d e⟩
theorem Twin.eqE {F G : FS} (h : Twin F G) (c : Cm) : doE G c = doE F c := by
  rw [h.same, doE_re]
theorem Twin.eqF {F G : FS} (h : Twin F G) (c : Cm) : doF G c = reT (doF F c) G.told := by
  rw [h.same, doF_re]; rfl
theorem Twin.both {F G : FS} (h : Twin F G) (c : Cm) : Twin (doF F c) (doF G c) := by
  refine h.told' ?_ (doF_told F c) (doF_told G c)
  rw [doF_told, h.eqF]
/-- What went through goes through again, and the two stay alike. -/
theorem Twin.ok {F G : FS} (h : Twin F G) {c : Cm} (h0 : applyE F c = 0) : applyE G c = 0 ∧ Twin (applyF F c) (applyF G c) := by
  unfold applyE at h0
  unfold applyE applyF
  by_cases h1 : checkB c = true
  · rw [if_pos h1] at h0
    simp only [if_pos h1]
    by_cases h2 : c.client = 0 ∧ c.seq = 0
    · rw [if_pos h2] at h0
      simp only [if_pos h2]
      exact ⟨by rw [h.eqE]; exact h0, h.both c⟩
    · rw [if_neg h2] at h0
      simp only [if_neg h2]
      have ht := h.told c.client c.seq
      cases h3 : F.told c.client c.seq with
      | some x =>
        rw [h3] at h0 ht
        simp only at h0
        subst h0
        rw [if_pos rfl] at ht
        rw [ht]
        exact ⟨rfl, h⟩
      | none =>
        rw [h3] at h0 ht
        simp only at h0
        rw [if_neg (by simp)] at ht
        rw [ht]
        simp only
        refine ⟨by rw [h.eqE]; exact h0, ?_⟩
        rw [h.eqE, h0]
        have hb := h.both c
        refine ⟨?_, ?_, ?_⟩
        · have := hb.same
          generalize doF G c = Y at *
          generalize doF F c = X at *
          rw [this]; rfl
        · intro a b
          unfold tellF
          by_cases h4 : wk a b = wk c.client c.seq
          · simp [h4]
          · simp only [if_neg h4]; exact hb.told a b
        · intro a b d e hw
          unfold tellF
          by_cases h4 : wk a b = wk c.client c.seq
          · have h5 : wk d e = wk c.client c.seq := hw ▸ h4
            simp only [if_pos h4, if_pos h5]
          · have h5 : ¬ wk d e = wk c.client c.seq := by rw [← hw]; exact h4
            simp only [if_neg h4, if_neg h5]; exact hb.key a b d e hw
  · rw [if_neg h1] at h0; exact absurd h0 (by decide)
/-- What was refused leaves the two alike. -/
theorem Twin.no {F G : FS} (h : Twin F G) {c : Cm} (h0 : applyE F c ≠ 0) : Twin (applyF F c) G := by
  unfold applyE at h0
  unfold applyF
  by_cases h1 : checkB c = true
  · rw [if_pos h1] at h0
    simp only [if_pos h1]
    by_cases h2 : c.client = 0 ∧ c.seq = 0
    · rw [if_pos h2] at h0
      simp only [if_pos h2]
      rw [doF_no h0]; exact h
    · rw [if_neg h2] at h0
      simp only [if_neg h2]
      cases h3 : F.told c.client c.seq with
      | some x => exact h
      | none =>
        rw [h3] at h0
        simp only at h0
        simp only
        rw [doF_no h0]
        refine ⟨?_, ?_, ?_⟩
        · have := h.same; generalize hg : G.told = g at *; rw [this]; rfl
        · intro a b
          unfold tellF
          by_cases h4 : wk a b = wk c.client c.seq
          · have h5 := h.told a b
            rw [h.key _ _ _ _ h4, h3] at h5
            rw [h5]
            simp [h4, h0]
          · simp only [if_neg h4]; exact h.told a b
        · intro a b d e hw
          unfold tellF
          by_cases h4 : wk a b = wk c.client c.seq
          · have h5 : wk d e = wk c.client c.seq := hw ▸ h4
            simp only [if_pos h4, if_pos h5]
          · have h5 : ¬ wk d e = wk c.client c.seq := by rw [← hw]; exact h4
            simp only [if_neg h4, if_neg h5]; exact h.key a b d e hw
  · rw [if_neg h1]; exact h
theorem rowsSp_len8 (F : FS) (rs : Rw) (h : ∀ r ∈ rs, r.2.length ≤ 8) : (rowsSp F rs).length ≤ 8 * rs.length := by
  induction rs with
  | nil => simp [rowsSp]
  | cons r rs ih =>
    have h1 := newSp_len (lensOf F r.1) r.1 r.2 r.2.length
    have h2 := h r (by simp)
    have h3 := ih (fun r hr => h r (by simp [hr]))
    have e : rowsSp F (r :: rs) = newSp (lensOf F r.1) r.1 r.2 r.2.length ++ rowsSp F rs := by simp [rowsSp, rowSp]
    rw [e, List.length_append, List.length_cons]; omega
theorem cutF_len (F : FS) (rs : Rw) (h : ∀ r ∈ rs, r.2.length ≤ 8) : (cutF F rs).l.length ≤ F.l.length + 8 * rs.length := by
  have := rowsSp_len8 F rs h
  show (F.l ++ posSp F.n (rowsSp F rs)).length ≤ _
  rw [List.length_append, posSp_len]; omega
theorem doF_len (F : FS) (c : Cm) (h : ∀ r ∈ c.rows, r.2.length ≤ 8) : (doF F c).l.length ≤ F.l.length + 8 * c.rows.length := by
  have hc := cutF_len F c.rows h
  unfold doF
  split
  · unfold addR; cases h : F.sh c.shard <;> simp [putS]
  split
  · unfold sealR; split
    · exact hc
    · omega
  split
  · unfold trimR; split <;> simp [trimF]
  split
  · unfold cutR; split
    · exact hc
    · omega
  · omega
theorem applyF_len (F : FS) (c : Cm) (h : ∀ r ∈ c.rows, r.2.length ≤ 8) : (applyF F c).l.length ≤ F.l.length + 8 * c.rows.length := by
  have hd := doF_len F c h
  unfold applyF
  split
  · split
    · exact hd
    · split
      · omega
      · exact hd
  · omega
end Go.Proofs.Ytabanackdjlcmaa
