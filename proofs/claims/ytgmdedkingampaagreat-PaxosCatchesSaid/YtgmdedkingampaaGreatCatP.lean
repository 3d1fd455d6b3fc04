/-
  Plain: three nodes, of which the first leads; a node that missed values.
-/
import Derived.Test.YtgmdedkingampaaGreatPxZa
set_option linter.unusedVariables false
set_option linter.unusedSimpArgs false
namespace Go.Proofs.YtgmdedkingampaaGreat
open Go.ChangeShapes Go.WideShapes Go.ChangeAt Go.RowKit Go.Maps
set_option maxRecDepth 1000000

theorem need_le {k d : Nat} (h : k ≤ 45 * d) (h1 : 1 ≤ d) : need k ≤ d := by unfold need; omega
theorem psN3 : psN 3 = [0, 1, 2] := rfl
/-- A node of three, told whole but for what it noted. -/
structure X3 (k m c : Nat) (A0 : AS) (L0 : LS) (lf0 top0 : Int) (kn0 : Ln.Kn) (x : Nd) : Prop where
  fine : Fine x m
  id : x.id = k
  ps : x.ps = [0, 1, 2]
  t : x.t = 2 * (k + 1)
  A : x.A = A0
  L : x.L = L0
  lf : x.lf = lf0
  top : x.top = top0
  kn : x.kn = kn0
  na : x.NA ≤ c
  nl : x.nl ≤ c
  NL : x.NL ≤ (if L0.stage = 2 then 5000 else 0) + c
section
variable {k m c : Nat} {A : AS} {L : LS} {lf top : Int} {kn : Ln.Kn} {x y : Nd} {ms : List Om}
theorem X3.mono {m' c' : Nat} (h : X3 k m c A L lf top kn x) (hm : m' ≤ m) (hc : c ≤ c') : X3 k m' c' A L lf top kn x :=
  ⟨h.fine.mono hm, h.id, h.ps, h.t, h.A, h.L, h.lf, h.top, h.kn, by have := h.na; omega, by have := h.nl; omega, by have := h.NL; omega⟩
theorem X3.ok (h : X3 k m c A L lf top kn x) (hk : k < 3) (hc : c ≤ 800) (hm : 3 ≤ m) (hv : ∀ a v, A.l a = some v → v.val.length ≤ 30) (ho : ∀ s v g, L.op s = some (v, g) → v.val.length ≤ 30) (hl : 1 ≤ lf ∧ lf ≤ 1000) (ht : U1 top) : NdOk x 100 ∧ TkOk x := by
  have h1 := h.na; have h2 := h.nl
  have h3 : x.NL ≤ 5000 + c := by have := h.NL; split at this <;> omega
  refine ⟨⟨by rw [h.ps]; decide, by omega, by omega, by omega, fun a v hv' => ?_, fun s v g hv' => ?_, h.fine.toRoom (Nat.le_trans (show need 128 ≤ 3 by decide) hm), by omega⟩, ⟨by rw [h.ps]; simp, by rw [h.lf]; omega, by rw [h.id]; omega, by rw [h.top]; exact ht⟩⟩
  · rw [h.A] at hv'; have := hv a v hv'; omega
  · rw [h.L] at hv'; have := ho s v g hv'; omega
theorem X3.note (h : X3 k m c A L lf top kn x) {bs : List Int} {d : Nat} (hn : bs.length ≤ 45 * d) (h1 : 1 ≤ d) (hd : d ≤ m) : X3 k (m - d) c A L lf top kn (noteN x bs) := by
  obtain ⟨k1, k2, k3, k4, k5, k6, k7, k8, k9, k10, k11, k12⟩ := noteN_same x bs
  have hnd := need_le hn h1
  have hf := (noteN_fine h.fine (bs := bs) (by omega)).mono (k := m - d) (by omega)
  generalize noteN x bs = z at *
  exact ⟨hf, k1.trans h.id, k2.trans h.ps, k10.trans h.t, k4.trans h.A, k9.trans h.L, k11.trans h.lf, k12.trans h.top, k6.trans h.kn, by rw [k3]; exact h.na, by rw [k5]; exact h.nl, by rw [k8]; exact h.NL⟩
theorem X3.heard (h : X3 k m c A L lf top kn x) (b : Int) : X3 k m c A L (if b < top then lf else 2 * (k + 1)) (if b < top then top else b) kn (heardN x b) := by
  refine ⟨h.fine.of rfl rfl rfl, h.id, h.ps, h.t, h.A, h.L, ?_, ?_, h.kn, h.na, h.nl, h.NL⟩
  · show (if b < x.top then x.lf else x.t) = _
    rw [h.top, h.lf, h.t]
  · show (if b < x.top then x.top else b) = _
    rw [h.top]
theorem X3.heard32 (h : X3 k m c A L lf top kn x) (ht : top ≤ 32) : X3 k m c A L (2 * (k + 1)) 32 kn (heardN x 32) := by
  have := h.heard 32
  rw [if_neg (by omega), if_neg (by omega)] at this
  exact this
theorem X3.setA (h : X3 k m c A L lf top kn x) (A' : AS) : X3 k m c A' L lf top kn { x with A := A' } := ⟨h.fine.of rfl rfl rfl, h.id, h.ps, h.t, rfl, h.L, h.lf, h.top, h.kn, h.na, h.nl, h.NL⟩
theorem X3.setL (h : X3 k m c A L lf top kn x) (L' : LS) (hL : x.NL ≤ (if L'.stage = 2 then 5000 else 0) + c) : X3 k m c A L' lf top kn { x with L := L' } := ⟨h.fine.of rfl rfl rfl, h.id, h.ps, h.t, h.A, rfl, h.lf, h.top, h.kn, h.na, h.nl, hL⟩
theorem X3.handR (h : X3 k m c A L lf top kn x) {t kd b s : Int} {xs : List Int} (ht : t = 0 ∨ t = 1 ∨ t = 2) (ho : own kd = true) (hh : HandleR x t kd b s xs y ms) : ∃ ms', HandR x t kd b s xs y ms' ∧ ms = if y.e = 0 then ms' else [] := by
  rcases hh with ⟨h1, _⟩ | ⟨_, _, _, ms', h1, h2⟩
  · rcases h1 with h1 | h1 | h1
    · exact absurd h.fine.e h1
    · rw [h.ps] at h1; exact absurd (by rcases ht with rfl | rfl | rfl <;> simp) h1
    · rw [ho] at h1; cases h1
  · exact ⟨ms', h1, h2⟩
theorem X3.wait (h : X3 k m c A L lf top kn x) (hs : L.stage ≠ 2) (hl : lf ≠ 1) (ht : TickR x y ms) : X3 k m c A L (lf - 1) top kn y ∧ ms = [] := by
  rcases ht with ⟨h1, _⟩ | ⟨_, h1, _⟩ | ⟨_, _, h1, rfl, rfl⟩ | ⟨_, _, h1, _⟩
  · exact absurd h.fine.e h1
  · rw [h.L] at h1; exact absurd h1 hs
  · refine ⟨⟨h.fine.of rfl rfl rfl, h.id, h.ps, h.t, h.A, h.L, ?_, h.top, h.kn, h.na, h.nl, h.NL⟩, rfl⟩
    show (if x.lf - 1 = 0 then x.t else x.lf - 1) = lf - 1
    rw [h.lf, if_neg (by omega)]
  · rw [h.lf] at h1; exact absurd h1 hl
theorem X3.stand (h : X3 0 m c A L 1 0 kn x) (hs : L.stage ≠ 2) (hA : A.promised = 0) (hL : L.ballot = 0) (hm : 1 ≤ m) (ht : TickR x y ms) (hn : x.next = 0) :
    X3 0 (m - 1) c ⟨32, A.low, A.l⟩ (beginL L 32 0) 2 32 kn y ∧ ms = allO [0, 1, 2] 7 32 0 [] := by
  have hb : nextBal x = 0 := by unfold nextBal; rw [h.top, h.A, h.L, hA, hL]; rfl
  have hid : x.id = 0 := h.id
  have hv : nextV (nextBal x) x.id = 32 := by rw [hb, hid]; rfl
  have he : nextE (nextBal x) x.id = 0 := by rw [hb, hid]; rfl
  have hst : X3 0 m c ⟨32, A.low, A.l⟩ L (x.t) 0 kn (standN x) := by
    refine ⟨h.fine.of rfl rfl rfl, h.id, h.ps, h.t, ?_, h.L, ?_, h.top, h.kn, h.na, h.nl, h.NL⟩
    · show (⟨nextV (nextBal x) x.id, x.A.low, x.A.l⟩ : AS) = _
      rw [hv, h.A]
    · show (if x.lf - 1 = 0 then x.t else x.lf - 1) = x.t
      rw [h.lf]; simp
  have hg := hst.note (bs := noteB 1 [32] none) (d := 1) (by decide) (by decide) hm
  have hnx := (noteN_same (standN x) (noteB 1 [32] none)).2.2.2.2.2.2.1
  rcases ht with ⟨h1, _⟩ | ⟨_, h1, _⟩ | ⟨_, _, h1, _⟩ | ⟨_, _, _, _, ⟨h1, _⟩ | ⟨_, rfl, rfl⟩⟩
  · exact absurd h.fine.e h1
  · rw [h.L] at h1; exact absurd h1 hs
  · rcases h1 with h1 | h1
    · exact absurd h.lf h1
    · exact absurd he h1
  · rw [hv] at h1; exact absurd hg.fine.e h1
  · rw [hv]
    have hnx2 : (noteN (standN x) (noteB 1 [32] none)).next = 0 := hnx.trans hn
    generalize noteN (standN x) (noteB 1 [32] none) = z at *
    have hz : X3 0 (m - 1) c ⟨32, A.low, A.l⟩ (beginL L 32 0) (x.t) 0 kn { z with L := beginL z.L 32 z.next, NL := 0 } :=
      ⟨hg.fine.of rfl rfl rfl, hg.id, hg.ps, hg.t, hg.A, by show beginL z.L 32 z.next = _; rw [hg.L, hnx2], hg.lf, hg.top, hg.kn, hg.na, hg.nl, Nat.zero_le _⟩
    refine ⟨?_, by rw [h.ps, hn]⟩
    exact hz.heard32 (by decide)
theorem X3.prep (h : X3 k m c A L lf top kn x) {t : Int} {s : Int} {xs : List Int} (ht3 : t = 0 ∨ t = 1 ∨ t = 2) (ht : top ≤ 32) (hA : A.promised ≤ 32) (hl : ∀ a, A.l a = none) (hm : 1 ≤ m) (hh : HandleR x t 7 32 s xs y ms) :
    X3 k (m - 1) c ⟨32, A.low, A.l⟩ L (2 * (k + 1)) 32 kn y ∧ ms = allO [t] 8 32 A.low (putV []) := by
  obtain ⟨ms', h1, rfl⟩ := h.handR ht3 rfl hh
  rcases h1 with ⟨_, ks, _, rfl, rfl⟩ | ⟨h1, _⟩ | ⟨h1, _⟩ | ⟨h1, _⟩ | ⟨h1, _⟩ | ⟨h1, _⟩ | ⟨h1, _⟩ | ⟨h1, _⟩ <;> try (exact absurd h1 (by decide))
  have hv : putV (votL x.A.l ks s) = putV [] := by rw [votL_none (by rw [h.A]; exact hl)]
  have hp : X3 k m c ⟨32, A.low, A.l⟩ L (2 * (k + 1)) 32 kn (promisedN x 32) := by
    have := (h.heard32 ht).setA ⟨32, A.low, A.l⟩
    have e : promisedN x 32 = { heardN x 32 with A := ⟨32, A.low, A.l⟩ } := by unfold promisedN; rw [h.A]
    rw [e]; exact this
  have hout : ∀ z m', X3 k m' c ⟨32, A.low, A.l⟩ L (2 * (k + 1)) 32 kn z → (if z.e = 0 then prepOut z t 32 (putV []) else []) = allO [t] 8 32 A.low (putV []) := fun z m' hz => by
    rw [if_pos hz.fine.e]
    unfold prepOut
    rw [if_neg (by decide), hz.A]
  unfold prepF
  rw [hv, h.A, if_neg (by omega)]
  by_cases hb : A.promised < 32
  · rw [if_pos hb]
    have hn := hp.note (bs := noteB 1 [32] none) (d := 1) (by decide) (by decide) hm
    rw [if_pos hn.fine.e]
    exact ⟨hn, hout _ _ hn⟩
  · rw [if_neg hb]
    exact ⟨hp.mono (by omega) (Nat.le_refl _), hout _ _ hp⟩
theorem X3.leadTick (h : X3 0 m c A L lf top kn x) (hs : L.stage = 2) (hb : L.ballot = 32) (ho : ∀ s, L.op s = none) (ht : TickR x y ms) : y = x ∧ ms = allO [1, 2] 18 32 x.next [] := by
  rcases ht with ⟨h1, _⟩ | ⟨_, _, rfl, ks, h2, h3⟩ | ⟨_, h1, _⟩ | ⟨_, h1, _⟩
  · exact absurd h.fine.e h1
  · refine ⟨rfl, ?_⟩
    have h4 : opL y.L.op ks = [] := by
      rw [h.L]
      unfold opL
      rw [List.filterMap_eq_nil_iff]
      intro a _
      rw [ho a]; rfl
    rw [h3, h4, h.L, hb, h.ps]
    have hid : y.id = 0 := h.id
    rw [hid]
    rfl
  · rw [h.L] at h1; exact absurd hs h1
  · rw [h.L] at h1; exact absurd hs h1
theorem idx3 {t : Int} (ht : t = 0 ∨ t = 1 ∨ t = 2) : idxI [0, 1, 2] t = t := by
  rcases ht with rfl | rfl | rfl <;> rfl
/-- A promise that isn't enough. -/
theorem X3.prom1 (h : X3 k m c A L lf top kn x) {t low : Int} (ht : t = 0 ∨ t = 1 ∨ t = 2) (hs : L.stage = 1) (hb : L.ballot = 32) (hm : L.many = 3) (hp : L.prom t.toNat = false) (hmaj : cnt 32 (addK L.prom t.toNat) ≤ 1) (hh : HandleR x t 8 32 low (putV []) y ms) :
    X3 k m c A (promL L t.toNat low) lf top kn y ∧ ms = [] := by
  obtain ⟨ms', h1, rfl⟩ := h.handR ht rfl hh
  rcases h1 with ⟨h1, _⟩ | ⟨_, h1⟩ | ⟨h1, _⟩ | ⟨h1, _⟩ | ⟨h1, _⟩ | ⟨h1, _⟩ | ⟨h1, _⟩ | ⟨h1, _⟩ <;> try (exact absurd h1 (by decide))
  have hg : getV (putV []) = (0, []) := by rfl
  have hix : idxI x.ps t = t := by rw [h.ps]; exact idx3 ht
  have hok : PromOk x t 32 (putV []) := ⟨by rw [hg], by rw [h.L, hix]; exact ⟨hs, hb.symm, by omega, by omega⟩, by rw [h.L, hix]; exact hp⟩
  have hL1 : promL1 x t low (putV []) = promL L t.toNat low := by
    unfold promL1
    rw [hg, hix, h.L]
    rfl
  have hno : ¬ (promL1 x t low (putV [])).many / 2 < cnt 32 (promL1 x t low (putV [])).prom := by
    rw [hL1]
    show ¬ L.many / 2 < (cnt 32 (addK L.prom t.toNat) : Int)
    rw [hm]
    omega
  rcases h1 with ⟨h1, _⟩ | ⟨_, _, rfl, rfl⟩ | ⟨_, h1, _⟩ | ⟨_, h1, _⟩
  · exact absurd hok h1
  · rw [hL1, hg]
    exact ⟨⟨h.fine.of rfl rfl rfl, h.id, h.ps, h.t, h.A, rfl, h.lf, h.top, h.kn, h.na, h.nl, h.NL⟩, by split <;> rfl⟩
  · exact absurd h1 hno
  · exact absurd h1 hno
/-- The promise that makes it lead: nobody voted. -/
theorem X3.prom2 (h : X3 k m c A L lf top kn x) {t : Int} (ht : t = 0 ∨ t = 1 ∨ t = 2) (hs : L.stage = 1) (hb : L.ballot = 32) (hm : L.many = 3) (hp : L.prom t.toNat = false) (hmaj : 2 ≤ cnt 32 (addK L.prom t.toNat)) (hk : ∀ a, L.kn a = none) (ho : ∀ a, L.op a = none) (hf : L.first = 0)
    (hh : HandleR x t 8 32 0 (putV []) y ms) : ∃ L', X3 k m c A L' lf top kn y ∧ L'.stage = 2 ∧ L'.ballot = 32 ∧ L'.many = 3 ∧ (∀ a, L'.op a = none) ∧ L'.next = 0 ∧ ms = [] := by
  obtain ⟨ms', h1, rfl⟩ := h.handR ht rfl hh
  rcases h1 with ⟨h1, _⟩ | ⟨_, h1⟩ | ⟨h1, _⟩ | ⟨h1, _⟩ | ⟨h1, _⟩ | ⟨h1, _⟩ | ⟨h1, _⟩ | ⟨h1, _⟩ <;> try (exact absurd h1 (by decide))
  have hg : getV (putV []) = (0, []) := by rfl
  have hix : idxI x.ps t = t := by rw [h.ps]; exact idx3 ht
  have hok : PromOk x t 32 (putV []) := ⟨by rw [hg], by rw [h.L, hix]; exact ⟨hs, hb.symm, by omega, by omega⟩, by rw [h.L, hix]; exact hp⟩
  have hL1 : promL1 x t 0 (putV []) = promL L t.toNat 0 := by
    unfold promL1
    rw [hg, hix, h.L]
    rfl
  have hyes : (promL1 x t 0 (putV [])).many / 2 < cnt 32 (promL1 x t 0 (putV [])).prom := by
    rw [hL1]
    show L.many / 2 < (cnt 32 (addK L.prom t.toNat) : Int)
    rw [hm]
    omega
  have hkn : ∀ s, (promL L t.toNat 0).kn s = none := hk
  have hnf : ¬ farL (promL1 x t 0 (putV [])) := by
    rw [hL1]
    rintro ⟨s, h2, _⟩
    rw [hkn s] at h2
    cases h2
  rcases h1 with ⟨h1, _⟩ | ⟨_, h1, _⟩ | ⟨_, _, h1, _⟩ | ⟨_, _, _, en, ks, h2, h3, rfl, rfl⟩
  · exact absurd hok h1
  · exact absurd hyes h1
  · exact absurd h1 hnf
  · rw [hL1] at h2 h3 ⊢
    have hfi : (promL L t.toNat 0).first = 0 := by show max L.first 0 = 0; rw [hf]; rfl
    have hen : en = 0 := by
      rcases h2.2.2 with h4 | ⟨s, h4, _⟩
      · rw [h4, hfi]
      · rw [hkn s] at h4; cases h4
    subst hen
    have hop : ∀ a, leadP (promL L t.toNat 0) 0 a = none := fun a => by
      unfold leadP
      rw [if_neg (by rw [hfi]; omega)]
      exact ho a
    have hks : opL (leadP (promL L t.toNat 0) 0) ks = [] := by
      unfold opL
      rw [List.filterMap_eq_nil_iff]
      intro a _
      rw [hop a]; rfl
    refine ⟨leadL (promL L t.toNat 0) 0, ⟨h.fine.of rfl rfl rfl, h.id, h.ps, h.t, h.A, rfl, h.lf, h.top, h.kn, h.na, h.nl, ?_⟩, rfl, hb, hm, hop, rfl, ?_⟩
    · show x.NL + (getV (putV [])).2.length + 4097 ≤ 5000 + c
      have := h.NL
      rw [if_neg (by omega)] at this
      rw [hg]
      simp
      omega
    · rw [hks]
      split <;> rfl
/-- A promise behind the last one that counts. -/
theorem X3.prom0 (h : X3 k m c A L lf top kn x) {t low : Int} {xs : List Int} (ht : t = 0 ∨ t = 1 ∨ t = 2) (hs : L.stage = 2) (hh : HandleR x t 8 32 low xs y ms) : y = x ∧ ms = [] := by
  obtain ⟨ms', h1, rfl⟩ := h.handR ht rfl hh
  rcases h1 with ⟨h1, _⟩ | ⟨_, h1⟩ | ⟨h1, _⟩ | ⟨h1, _⟩ | ⟨h1, _⟩ | ⟨h1, _⟩ | ⟨h1, _⟩ | ⟨h1, _⟩ <;> try (exact absurd h1 (by decide))
  have hno : ¬ PromOk x t 32 xs := fun hk => by
    have := hk.2.1.1
    rw [h.L, hs] at this
    exact absurd this (by decide)
  rcases h1 with ⟨_, rfl, rfl⟩ | ⟨h1, _⟩ | ⟨h1, _⟩ | ⟨h1, _⟩
  · exact ⟨rfl, by split <;> rfl⟩
  · exact absurd h1 hno
  · exact absurd h1 hno
  · exact absurd h1 hno
theorem X3.beat (h : X3 k m c A L lf top kn x) {s : Int} {xs : List Int} (ht : top ≤ 32) (hs2 : L.stage ≠ 2) (hh : HandleR x 0 18 32 s xs y ms) :
    X3 k m c A (if L.ballot < 32 then stopL L else L) (2 * (k + 1)) 32 kn y ∧ ms = if s ≤ x.next then [] else allO [0] 13 0 x.next [] := by
  obtain ⟨ms', h1, rfl⟩ := h.handR (Or.inl rfl) rfl hh
  rcases h1 with ⟨h1, _⟩ | ⟨h1, _⟩ | ⟨h1, _⟩ | ⟨h1, _⟩ | ⟨h1, _⟩ | ⟨h1, _⟩ | ⟨h1, _⟩ | ⟨_, rfl, rfl⟩ <;> try (exact absurd h1 (by decide))
  have hb : X3 k m c A (if L.ballot < 32 then stopL L else L) (2 * (k + 1)) 32 kn (beatN x 32) := by
    unfold beatN
    rw [h.L]
    by_cases hl : L.ballot < 32
    · rw [if_pos hl, if_pos hl]; exact (h.heard32 ht).setL _ (by have := h.NL; rw [if_neg hs2] at this; show x.NL ≤ 0 + c; exact this)
    · rw [if_neg hl, if_neg hl]; exact h.heard32 ht
  have hn : ¬ (32 : Int) < x.top := by rw [h.top]; omega
  have hf : beatF x 0 32 s = if s ≤ x.next then (beatN x 32, []) else (beatN x 32, allO [0] 13 0 x.next []) := by
    unfold beatF
    rw [if_neg hn]
  rw [hf]
  by_cases hs : s ≤ x.next
  · rw [if_pos hs, if_pos hs]
    exact ⟨hb, by split <;> rfl⟩
  · rw [if_neg hs, if_neg hs]
    exact ⟨hb, by rw [if_pos hb.fine.e]⟩
theorem noteB_two {s b : Int} {xs : List Int} {kd : Int} (hl : xs.length ≤ 30) : (noteB kd [s, b] (some xs)).length ≤ 45 * 2 := by
  have := noteB_len kd [s, b] (some xs)
  simp at this
  omega
theorem noteB_lrn {s : Int} {xs : List Int} {kd : Int} (hl : xs.length ≤ 30) : (noteB kd [s] (some xs)).length ≤ 45 * 2 := by
  have := noteB_len kd [s] (some xs)
  simp at this
  omega
theorem X3.acc (h : X3 k m c A L lf top kn x) {s : Int} {xs : List Int} (ht : top ≤ 32) (hA : A.promised ≤ 32) (hl : A.low ≤ s) (hx : xs.length ≤ 30) (hm : 2 ≤ m) (hh : HandleR x 0 9 32 s xs y ms) :
    X3 k (m - 2) (c + 1) (putA A ⟨s, 32, xs⟩) L (2 * (k + 1)) 32 kn y ∧ ms = allO [0] 10 32 s [] := by
  obtain ⟨ms', h1, rfl⟩ := h.handR (Or.inl rfl) rfl hh
  rcases h1 with ⟨h1, _⟩ | ⟨h1, _⟩ | ⟨_, rfl, rfl⟩ | ⟨h1, _⟩ | ⟨h1, _⟩ | ⟨h1, _⟩ | ⟨h1, _⟩ | ⟨h1, _⟩ <;> try (exact absurd h1 (by decide))
  have he : accE x.A ⟨s, 32, xs⟩ = 0 := by
    unfold accE
    rw [h.A, if_neg (by show ¬ (32 : Int) < A.promised; omega), if_neg (by show ¬ s < A.low; omega)]
  have hr : accR x.A ⟨s, 32, xs⟩ = putA A ⟨s, 32, xs⟩ := by unfold accR; rw [if_pos he, h.A]
  have hS : X3 k m (c + 1) (putA A ⟨s, 32, xs⟩) L (2 * (k + 1)) 32 kn (acceptedN x ⟨s, 32, xs⟩) := by
    have := (h.heard32 ht).setA (putA A ⟨s, 32, xs⟩)
    have e : acceptedN x ⟨s, 32, xs⟩ = { heardN x 32 with A := putA A ⟨s, 32, xs⟩, NA := x.NA + 1 } := by unfold acceptedN; rw [hr]
    rw [e]
    exact ⟨this.fine.of rfl rfl rfl, this.id, this.ps, this.t, rfl, this.L, this.lf, this.top, this.kn, by show x.NA + 1 ≤ c + 1; have := h.na; omega, by have := h.nl; show x.nl ≤ c + 1; omega, by have := h.NL; show x.NL ≤ (if L.stage = 2 then 5000 else 0) + (c + 1); omega⟩
  unfold acceptF
  rw [if_pos he]
  by_cases hsm : sameA x ⟨s, 32, xs⟩ = true
  · rw [if_pos hsm]
    exact ⟨hS.mono (by omega) (Nat.le_refl _), by rw [if_pos hS.fine.e]⟩
  · rw [if_neg hsm]
    have hg := hS.note (bs := noteB 2 [s, 32] (some xs)) (d := 2) (noteB_two hx) (by decide) hm
    rw [if_pos hg.fine.e]
    exact ⟨hg, by rw [if_pos (show (noteN (acceptedN x ⟨s, 32, xs⟩) (noteB 2 [s, 32] (some xs))).e = 0 from hg.fine.e)]⟩
theorem X3.learn (h : X3 k m c A L lf top kn x) {s : Int} {xs : List Int} {nx : Int} (hk : kn s = none) (hs : s ≠ 18446744073709551615) (hx : xs.length ≤ 30) (hm : 2 ≤ m) :
    X3 k (m - 2) (c + 1) A L lf top (Ln.putK kn s xs) (learnN x s xs nx) := by
  have hg := h.note (bs := noteB 3 [s] (some xs)) (d := 2) (noteB_lrn hx) (by decide) hm
  have hln : learnN x s xs nx = { noteN x (noteB 3 [s] (some xs)) with nl := x.nl + 1, kn := Ln.putK kn s xs, next := nx } := by
    unfold learnN
    rw [if_neg (by rw [h.kn, hk]; intro hh; rcases hh with hh | hh; cases hh; exact hs hh), if_pos hg.fine.e, h.kn]
  rw [hln]
  exact ⟨hg.fine.of rfl rfl rfl, hg.id, hg.ps, hg.t, hg.A, hg.L, hg.lf, hg.top, rfl, by have := hg.na; show (noteN x _).NA ≤ c + 1; omega, by have := h.nl; show x.nl + 1 ≤ c + 1; omega, by have := hg.NL; show (noteN x _).NL ≤ (if L.stage = 2 then 5000 else 0) + (c + 1); omega⟩
theorem X3.lrn (h : X3 k m c A L lf top kn x) {b s : Int} {xs : List Int} (hk : kn s = none) (hs : s ≠ 18446744073709551615) (hx : xs.length ≤ 30) (hm : 2 ≤ m) (hh : HandleR x 0 12 b s xs y ms) :
    X3 k (m - 2) (c + 1) A L lf top (Ln.putK kn s xs) y ∧ ms = [] := by
  obtain ⟨ms', h1, rfl⟩ := h.handR (Or.inl rfl) rfl hh
  rcases h1 with ⟨h1, _⟩ | ⟨h1, _⟩ | ⟨h1, _⟩ | ⟨h1, _⟩ | ⟨h1, _⟩ | ⟨_, ⟨nx, rfl⟩, rfl⟩ | ⟨h1, _⟩ | ⟨h1, _⟩ <;> try (exact absurd h1 (by decide))
  exact ⟨h.learn hk hs hx hm, by split <;> rfl⟩
theorem X3.lrn0 (h : X3 k m c A L lf top kn x) {b s : Int} {xs : List Int} (hk : (kn s).isSome = true) (hh : HandleR x 0 12 b s xs y ms) : y = x ∧ ms = [] := by
  obtain ⟨ms', h1, rfl⟩ := h.handR (Or.inl rfl) rfl hh
  rcases h1 with ⟨h1, _⟩ | ⟨h1, _⟩ | ⟨h1, _⟩ | ⟨h1, _⟩ | ⟨h1, _⟩ | ⟨_, ⟨nx, rfl⟩, rfl⟩ | ⟨h1, _⟩ | ⟨h1, _⟩ <;> try (exact absurd h1 (by decide))
  refine ⟨?_, by split <;> rfl⟩
  unfold learnN
  rw [if_pos (Or.inl (by rw [h.kn]; exact hk))]
theorem X3.cntOk (h : X3 k m c A L lf top kn x) {t : Int} (ht : t = 0 ∨ t = 1 ∨ t = 2) (hs : L.stage = 2) (hb : L.ballot = 32) (hm : L.many = 3) : CntOk x t 32 ∧ idxI x.ps t = t := by
  have hix : idxI x.ps t = t := by rw [h.ps]; exact idx3 ht
  refine ⟨?_, hix⟩
  unfold CntOk
  rw [h.L, hix]
  exact ⟨hs, hb.symm, by omega, by omega⟩
/-- A vote of which there is nothing to count any more. -/
theorem X3.cnt0 (h : X3 k m c A L lf top kn x) {t b s : Int} {xs : List Int} (ht : t = 0 ∨ t = 1 ∨ t = 2) (ho : L.op s = none) (hh : HandleR x t 10 b s xs y ms) : y = x ∧ ms = [] := by
  obtain ⟨ms', h1, rfl⟩ := h.handR ht rfl hh
  rcases h1 with ⟨h1, _⟩ | ⟨h1, _⟩ | ⟨h1, _⟩ | ⟨_, h1⟩ | ⟨h1, _⟩ | ⟨h1, _⟩ | ⟨h1, _⟩ | ⟨h1, _⟩ <;> try (exact absurd h1 (by decide))
  obtain ⟨y1, o, h1, h2⟩ := h1
  rcases h1 with ⟨_, rfl, rfl⟩ | ⟨_, v', g', h3, _⟩
  · obtain ⟨rfl, rfl⟩ := h2
    exact ⟨rfl, by split <;> rfl⟩
  · rw [h.L, ho] at h3; cases h3
/-- The first vote that comes. -/
theorem X3.cnt1 (h : X3 k m c A L lf top kn x) {t s : Int} {xs : List Int} {v : Vt} {g : Nat → Bool} (ht : t = 0 ∨ t = 1 ∨ t = 2) (hs : L.stage = 2) (hb : L.ballot = 32) (hm : L.many = 3) (ho : L.op s = some (v, g)) (hmaj : cnt 32 (addK g t.toNat) ≤ 1) (hh : HandleR x t 10 32 s xs y ms) :
    X3 k m (c + 1) A (opP L v (addK g t.toNat)) lf top kn y ∧ ms = [] := by
  obtain ⟨ms', h1, rfl⟩ := h.handR ht rfl hh
  rcases h1 with ⟨h1, _⟩ | ⟨h1, _⟩ | ⟨h1, _⟩ | ⟨_, h1⟩ | ⟨h1, _⟩ | ⟨h1, _⟩ | ⟨h1, _⟩ | ⟨h1, _⟩ <;> try (exact absurd h1 (by decide))
  obtain ⟨hok, hix⟩ := h.cntOk ht hs hb hm
  obtain ⟨y1, o, h1, h2⟩ := h1
  rcases h1 with ⟨h1, _⟩ | ⟨_, v', g', h3, ⟨h4, _⟩ | ⟨_, rfl, rfl⟩⟩
  · rcases h1 with h1 | h1
    · exact absurd hok h1
    · rw [h.L, ho] at h1; cases h1
  · rw [h.L, ho] at h3
    cases h3
    rw [h.L, hm, hix] at h4
    omega
  · rw [h.L, ho] at h3
    cases h3
    obtain ⟨rfl, rfl⟩ := h2
    refine ⟨⟨h.fine.of rfl rfl rfl, h.id, h.ps, h.t, h.A, ?_, h.lf, h.top, h.kn, by have := h.na; show x.NA ≤ c + 1; omega, by have := h.nl; show x.nl ≤ c + 1; omega, by have := h.NL; show x.NL + 1 ≤ (if L.stage = 2 then 5000 else 0) + (c + 1); omega⟩, by split <;> rfl⟩
    show opP x.L v (addK g (idxI x.ps t).toNat) = _
    rw [h.L, hix]
/-- The vote that chooses. -/
theorem X3.cnt2 (h : X3 k m c A L lf top kn x) {t s : Int} {xs : List Int} {v : Vt} {g : Nat → Bool} (ht : t = 0 ∨ t = 1 ∨ t = 2) (hs : L.stage = 2) (hb : L.ballot = 32) (hm : L.many = 3) (ho : L.op s = some (v, g)) (hmaj : 2 ≤ cnt 32 (addK g t.toNat)) (hv : v.slot = s) (hvm : s ≠ 18446744073709551615) (hk : kn s = none) (hx : v.val.length ≤ 30) (hmm : 2 ≤ m)
    (hh : HandleR x t 10 32 s xs y ms) : X3 k (m - 2) (c + 2) A (opD L s) lf top (Ln.putK kn s v.val) y ∧ ms = allO [0, 1, 2] 12 0 s v.val := by
  obtain ⟨ms', h1, rfl⟩ := h.handR ht rfl hh
  rcases h1 with ⟨h1, _⟩ | ⟨h1, _⟩ | ⟨h1, _⟩ | ⟨_, h1⟩ | ⟨h1, _⟩ | ⟨h1, _⟩ | ⟨h1, _⟩ | ⟨h1, _⟩ <;> try (exact absurd h1 (by decide))
  obtain ⟨hok, hix⟩ := h.cntOk ht hs hb hm
  obtain ⟨y1, o, h1, h2⟩ := h1
  rcases h1 with ⟨h1, _⟩ | ⟨_, v', g', h3, ⟨_, rfl, rfl⟩ | ⟨h4, _⟩⟩
  · rcases h1 with h1 | h1
    · exact absurd hok h1
    · rw [h.L, ho] at h1; cases h1
  · rw [h.L, ho] at h3
    cases h3
    obtain ⟨nx, rfl, rfl⟩ := h2
    have hS : X3 k m (c + 1) A (opD L s) lf top kn { x with L := opD x.L v.slot, NL := x.NL + 1 } :=
      ⟨h.fine.of rfl rfl rfl, h.id, h.ps, h.t, h.A, by show opD x.L v.slot = _; rw [h.L, hv], h.lf, h.top, h.kn, by have := h.na; show x.NA ≤ c + 1; omega, by have := h.nl; show x.nl ≤ c + 1; omega, by have := h.NL; show x.NL + 1 ≤ (if L.stage = 2 then 5000 else 0) + (c + 1); omega⟩
    have hl := hS.learn (s := v.slot) (xs := v.val) (nx := nx) (by rw [hv]; exact hk) (by rw [hv]; exact hvm) hx hmm
    have hl' := hl
    rw [hv] at hl'
    exact ⟨by rw [hv]; exact hl', by rw [if_pos hl.fine.e, h.ps, hv]⟩
  · rw [h.L, ho] at h3
    cases h3
    rw [h.L, hm, hix] at h4
    omega
theorem X3.prop (h : X3 k m c A L lf top kn x) {xs : List Int} {er : Int} (hs : L.stage = 2) (hn : L.next ≠ 18446744073709551615) (hp : PropR x xs y ms er) :
    X3 k m (c + 1) A (nextL (opP L ⟨L.next, L.ballot, xs⟩ (fun _ => false))) lf top kn y ∧ er = 0 ∧ ms = accO [⟨L.next, L.ballot, xs⟩] [0, 1, 2] := by
  rcases hp with ⟨h1, _⟩ | ⟨_, v, h1, rfl⟩
  · exact absurd h.fine.e h1
  · rcases h1 with ⟨h1, _⟩ | ⟨_, h1, _⟩ | ⟨_, _, rfl, rfl, rfl⟩
    · rw [h.L] at h1; exact absurd hs h1
    · rw [h.L] at h1; exact absurd h1 hn
    · refine ⟨⟨h.fine.of rfl rfl rfl, h.id, h.ps, h.t, h.A, ?_, h.lf, h.top, h.kn, by have := h.na; show x.NA ≤ c + 1; omega, by have := h.nl; show x.nl ≤ c + 1; omega, by have := h.NL; show x.NL + 1 ≤ (if L.stage = 2 then 5000 else 0) + (c + 1); omega⟩, rfl, ?_⟩
      · show nextL (opP x.L ⟨x.L.next, x.L.ballot, xs⟩ (fun _ => false)) = _
        rw [h.L]
      · rw [if_pos rfl, h.ps, h.L]
theorem X3.catch (h : X3 k m c A L lf top kn x) {t s : Int} {xs : List Int} {b : Int} (ht : t = 0 ∨ t = 1 ∨ t = 2) (hh : HandleR x t 13 b s xs y ms) : y = x ∧ CatchR x t s ms := by
  obtain ⟨ms', h1, rfl⟩ := h.handR ht rfl hh
  rcases h1 with ⟨h1, _⟩ | ⟨h1, _⟩ | ⟨h1, _⟩ | ⟨h1, _⟩ | ⟨h1, _⟩ | ⟨h1, _⟩ | ⟨_, rfl, h1⟩ | ⟨h1, _⟩ <;> try (exact absurd h1 (by decide))
  exact ⟨rfl, by rw [if_pos h.fine.e]; exact h1⟩
end
end Go.Proofs.YtgmdedkingampaaGreat
