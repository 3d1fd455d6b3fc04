/-
  Law 17: awake, plain: what one node alone proposes it learns.
-/
import Derived.Test.YtgmdedkingampaaGreatPxW
set_option linter.unusedVariables false
set_option linter.unusedSimpArgs false
namespace Go.Proofs.YtgmdedkingampaaGreat
set_option maxRecDepth 1000000
set_option linter.unusedVariables false
set_option linter.unusedSimpArgs false

/-- A node whose disk never stops, with so much room. -/
structure Fine (x : Nd) (m : Nat) : Prop where
  e : x.e = 0
  se : x.sg.e = 0
  left : x.d.left = -1
  down : x.d.down = false
  waits : x.d.waits = []
  fit : x.sg.fr + x.sg.n ≤ x.d.l.length
  room : x.sg.used + m ≤ x.sg.n
  few : x.sg.l.length + m ≤ 60000
theorem dkWr_fine {d : Dk} (h1 : d.left = -1) (h2 : d.down = false) (i : Nat) (b : List Int) : (dkWr d i b).1 = 0 ∧ (dkWr d i b).2.left = -1 ∧ (dkWr d i b).2.down = false ∧ (dkWr d i b).2.l = d.l := by
  unfold dkWr
  rw [h2, h1]
  exact ⟨rfl, by show max ((-1 : Int) - 1) (-1) = -1; decide, rfl, rfl⟩
theorem wrs_fine (f : Nat → List Int) (base : Nat) : ∀ (r i : Nat) (d : Dk), d.left = -1 → d.down = false → (wrs f base i r d).1 = 0 ∧ (wrs f base i r d).2.left = -1 ∧ (wrs f base i r d).2.down = false ∧ (wrs f base i r d).2.l = d.l
  | 0, i, d, h1, h2 => ⟨rfl, h1, h2, rfl⟩
  | r + 1, i, d, h1, h2 => by
    obtain ⟨g1, g2, g3, g4⟩ := dkWr_fine h1 h2 (base + i) (f i)
    obtain ⟨k1, k2, k3, k4⟩ := wrs_fine f base r (i + 1) _ g2 g3
    show (if _ then _ else _ : Int × Dk).1 = 0 ∧ (if _ then _ else _ : Int × Dk).2.left = -1 ∧ (if _ then _ else _ : Int × Dk).2.down = false ∧ (if _ then _ else _ : Int × Dk).2.l = d.l
    rw [if_pos g1]
    exact ⟨k1, k2, k3, k4.trans g4⟩
theorem noteN_fine {x : Nd} {m : Nat} (h : Fine x m) {bs : List Int} (hn : need bs.length ≤ m) : Fine (noteN x bs) (m - need bs.length) := by
  obtain ⟨k1, k2, k3, k4⟩ := wrs_fine (partB x.sg bs) (x.sg.fr + x.sg.used) (need bs.length) 0 x.d h.left h.down
  have ha : sgApp x.sg x.d bs = ((x.sg.l.length : Int), 0, { x.sg with l := x.sg.l ++ [bs], used := x.sg.used + need bs.length }, (wrs (partB x.sg bs) (x.sg.fr + x.sg.used) 0 (need bs.length) x.d).2) := by
    unfold sgApp
    rw [if_pos k1]
  have h1 : 1 ≤ need bs.length := by unfold need; omega
  obtain ⟨d', hd⟩ : ∃ d', (wrs (partB x.sg bs) (x.sg.fr + x.sg.used) 0 (need bs.length) x.d).2 = d' := ⟨_, rfl⟩
  rw [hd] at ha k2 k3 k4
  have hs : dkSy d' = (0, dkSync d') := by unfold dkSy; rw [k3, k2]; rfl
  have hn2 : noteN x bs = { x with sg := { x.sg with l := x.sg.l ++ [bs], used := x.sg.used + need bs.length, sure := (x.sg.l ++ [bs]).length }, d := dkSync d', e := 0 } := by
    unfold noteN
    rw [ha]
    simp only [if_true]
    unfold sgSy
    rw [hs]
    simp only [if_true]
  rw [hn2]
  refine ⟨rfl, h.se, ?_, k3, rfl, ?_, ?_, ?_⟩
  · show max (d'.left - 1) (-1) = -1
    rw [k2]; decide
  · show x.sg.fr + x.sg.n ≤ (applyW d'.l d'.waits).length
    rw [applyW_length, k4]; exact h.fit
  · show x.sg.used + need bs.length + (m - need bs.length) ≤ x.sg.n
    have := h.room; omega
  · show (x.sg.l ++ [bs]).length + (m - need bs.length) ≤ 60000
    have := h.few
    rw [List.length_append, List.length_cons, List.length_nil]
    omega
theorem Fine.toRoom {x : Nd} {m k : Nat} (h : Fine x m) (hk : need k ≤ m) : Room x k :=
  ⟨by have := h.room; omega, h.fit, by rw [h.waits]; decide, by have := h.few; omega, h.se⟩
theorem Fine.mono {x : Nd} {m k : Nat} (h : Fine x m) (hk : k ≤ m) : Fine x k := ⟨h.e, h.se, h.left, h.down, h.waits, h.fit, by have := h.room; omega, by have := h.few; omega⟩
/-- One node alone. -/
structure S1 (x : Nd) (m K : Nat) (A : AS) (L : LS) (lf top : Int) : Prop where
  fine : Fine x m
  id : x.id = 0
  ps : x.ps = [0]
  t : x.t = 2
  A : x.A = A
  L : x.L = L
  lf : x.lf = lf
  top : x.top = top
  na : x.NA ≤ 20
  NL : x.NL ≤ K
  nl : x.nl ≤ 20
theorem S1.ok {x : Nd} {m K : Nat} {A : AS} {L : LS} {lf top : Int} (h : S1 x m K A L lf top) (hK : K ≤ 20000) (hm : 3 ≤ m) (hv : ∀ a v, A.l a = some v → v.val.length ≤ 100) (ho : ∀ s v g, L.op s = some (v, g) → v.val.length ≤ 100) (hl : 1 ≤ lf ∧ lf ≤ 100001) (ht : U1 top) : NdOk x 100 ∧ TkOk x :=
  ⟨⟨by rw [h.ps]; decide, by have := h.na; omega, by have := h.NL; omega, by have := h.nl; omega, fun a v hh => by rw [h.A] at hh; have := hv a v hh; omega, fun s v g hh => by rw [h.L] at hh; exact ho s v g hh, h.fine.toRoom (by show need 128 ≤ m; have : need 128 = 3 := rfl; omega), by decide⟩,
   ⟨by rw [h.ps]; simp, by rw [h.lf]; exact hl, by rw [h.id]; decide, by rw [h.top]; exact ht⟩⟩
theorem tick_wait {x y : Nd} {ms : List Om} {m K : Nat} {A : AS} {L : LS} {lf top : Int} (h : S1 x m K A L lf top) (hs : L.stage ≠ 2) (hl : lf ≠ 1) (ht : TickR x y ms) : S1 y m K A L (lf - 1) top ∧ y.kn = x.kn ∧ y.next = x.next ∧ y.NA = x.NA ∧ y.nl = x.nl ∧ ms = [] := by
  rcases ht with ⟨h1, _⟩ | ⟨_, h1, _⟩ | ⟨_, _, _, rfl, rfl⟩ | ⟨_, _, h1, _⟩
  · exact absurd h.fine.e h1
  · rw [h.L] at h1; exact absurd h1 hs
  · refine ⟨⟨⟨h.fine.e, h.fine.se, h.fine.left, h.fine.down, h.fine.waits, h.fine.fit, h.fine.room, h.fine.few⟩, h.id, h.ps, h.t, h.A, h.L, ?_, h.top, h.na, h.NL, h.nl⟩, rfl, rfl, rfl, rfl, rfl⟩
    show (if x.lf - 1 = 0 then x.t else x.lf - 1) = lf - 1
    rw [h.lf, if_neg (by omega)]
  · rw [h.lf] at h1; exact absurd h1 hl
theorem Fine.of {x y : Nd} {m : Nat} (h : Fine x m) (h1 : y.e = x.e) (h2 : y.sg = x.sg) (h3 : y.d = x.d) : Fine y m :=
  ⟨h1.trans h.e, by rw [h2]; exact h.se, by rw [h3]; exact h.left, by rw [h3]; exact h.down, by rw [h3]; exact h.waits, by rw [h2, h3]; exact h.fit, by rw [h2]; exact h.room, by rw [h2]; exact h.few⟩
theorem tick_stand {x y : Nd} {ms : List Om} {m K : Nat} {A : AS} {L : LS} (h : S1 x m K A L 1 0) (hs : L.stage ≠ 2) (hA : A.promised = 0) (hL : L.ballot = 0) (hm : 1 ≤ m) (ht : TickR x y ms) :
    S1 y (m - 1) K ⟨32, A.low, A.l⟩ (beginL L 32 x.next) 2 32 ∧ y.kn = x.kn ∧ y.next = x.next ∧ y.NA = x.NA ∧ y.nl = x.nl ∧ ms = allO [0] 7 32 x.next [] := by
  have hb : nextBal x = 0 := by unfold nextBal; rw [h.top, h.A, h.L, hA, hL]; rfl
  have hv : nextV (nextBal x) x.id = 32 := by rw [hb, h.id]; rfl
  have he : nextE (nextBal x) x.id = 0 := by rw [hb, h.id]; rfl
  have hf : Fine (standN x) m := h.fine.of rfl rfl rfl
  have hn : need (noteB 1 [32] none).length = 1 := by rfl
  have hg := noteN_fine hf (bs := noteB 1 [32] none) (by rw [hn]; exact hm)
  rw [hn] at hg
  have hsm := noteN_same (standN x) (noteB 1 [32] none)
  rcases ht with ⟨h1, _⟩ | ⟨_, h1, _⟩ | ⟨_, _, h1, _⟩ | ⟨_, _, _, _, ⟨h1, _⟩ | ⟨_, rfl, rfl⟩⟩
  · exact absurd h.fine.e h1
  · rw [h.L] at h1; exact absurd h1 hs
  · rcases h1 with h1 | h1
    · exact absurd h.lf h1
    · exact absurd he h1
  · rw [hv] at h1; exact absurd hg.e h1
  · rw [hv]
    obtain ⟨k1, k2, k3, k4, k5, k6, k7, k8, k9, k10, k11, k12⟩ := hsm
    generalize noteN (standN x) (noteB 1 [32] none) = z at *
    have htop : z.top = 0 := k12.trans h.top
    refine ⟨⟨hg.of rfl rfl rfl, k1.trans h.id, k2.trans h.ps, k10.trans h.t, ?_, ?_, ?_, ?_, ?_, Nat.zero_le _, ?_⟩, k6, k7, k3, k5, by rw [h.ps]⟩
    · show z.A = _
      rw [k4]
      show (⟨nextV (nextBal x) x.id, x.A.low, x.A.l⟩ : AS) = _
      rw [hv, h.A]
    · show beginL z.L 32 z.next = _
      rw [k9, k7]
      show beginL x.L 32 x.next = _
      rw [h.L]
    · show (if 32 < z.top then z.lf else z.t) = 2
      rw [htop, if_neg (by omega)]
      exact k10.trans h.t
    · show (if 32 < z.top then z.top else 32) = 32
      rw [htop, if_neg (by omega)]
    · show z.NA ≤ 20
      rw [k3]; exact h.na
    · show z.nl ≤ 20
      rw [k5]; exact h.nl
theorem handR_of {x y : Nd} {k b s : Int} {xs : List Int} {ms : List Om} {m K : Nat} {A : AS} {L : LS} {lf top : Int} (h : S1 x m K A L lf top) (ho : own k = true) (hh : HandleR x 0 k b s xs y ms) : ∃ ms', HandR x 0 k b s xs y ms' ∧ ms = if y.e = 0 then ms' else [] := by
  rcases hh with ⟨h1, _⟩ | ⟨_, _, _, ms', h1, h2⟩
  · rcases h1 with h1 | h1 | h1
    · exact absurd h.fine.e h1
    · rw [h.ps] at h1; exact absurd (List.mem_cons_self ..) h1
    · rw [ho] at h1; cases h1
  · exact ⟨ms', h1, h2⟩
theorem votL_none {l : Int → Option Vt} (h : ∀ a, l a = none) (ks : List Int) (fr : Int) : votL l ks fr = [] := by
  unfold votL
  rw [List.filterMap_eq_nil_iff]
  intro a _
  exact h a
theorem heard_S1 {x : Nd} {m K : Nat} {A : AS} {L : LS} {lf top : Int} (h : S1 x m K A L lf top) (A' : AS) (N' : Nat) (hN : N' ≤ 20) : S1 { heardN x top with A := A', NA := N' } m K A' L 2 top := by
  refine ⟨h.fine.of rfl rfl rfl, h.id, h.ps, h.t, rfl, h.L, ?_, ?_, hN, h.NL, h.nl⟩
  · show (if top < x.top then x.lf else x.t) = 2
    rw [h.top, if_neg (by omega)]; exact h.t
  · show (if top < x.top then x.top else top) = top
    rw [h.top, if_neg (by omega)]
theorem hand_prep {x y : Nd} {ms : List Om} {s : Int} {xs : List Int} {m K : Nat} {A : AS} {L : LS} {lf : Int} (h : S1 x m K A L lf 32) (hA : A.promised = 32) (hl : ∀ a, A.l a = none) (hh : HandleR x 0 7 32 s xs y ms) :
    S1 y m K A L 2 32 ∧ y.kn = x.kn ∧ y.next = x.next ∧ y.NA = x.NA ∧ y.nl = x.nl ∧ ms = allO [0] 8 32 A.low (putV []) := by
  obtain ⟨ms', h1, rfl⟩ := handR_of h rfl hh
  rcases h1 with ⟨_, ks, _, rfl, rfl⟩ | ⟨h1, _⟩ | ⟨h1, _⟩ | ⟨h1, _⟩ | ⟨h1, _⟩ | ⟨h1, _⟩ | ⟨h1, _⟩ | ⟨h1, _⟩ <;> try (exact absurd h1 (by decide))
  have hp : x.A.promised = 32 := by rw [h.A]; exact hA
  have hF : prepF x ks 0 32 s = (promisedN x 32, prepOut (promisedN x 32) 0 32 (putV [])) := by
    unfold prepF
    rw [hp, if_neg (by omega), if_neg (by omega), votL_none (by rw [h.A]; exact hl)]
  have hS := heard_S1 h ⟨32, x.A.low, x.A.l⟩ x.NA h.na
  have hAe : (⟨32, x.A.low, x.A.l⟩ : AS) = A := by rw [h.A, ← hA]
  rw [hAe] at hS
  rw [hF]
  have hS2 : S1 (promisedN x 32) m K A L 2 32 := by
    have e : promisedN x 32 = { heardN x 32 with A := A, NA := x.NA } := by unfold promisedN; rw [hAe]; rfl
    rw [e]; exact hS
  refine ⟨hS2, rfl, rfl, rfl, rfl, ?_⟩
  rw [if_pos hS2.fine.e]
  show prepOut (promisedN x 32) 0 32 (putV []) = _
  unfold prepOut
  rw [if_neg (by decide), hS2.A]
theorem tick_lead {x y : Nd} {ms : List Om} {m K : Nat} {A : AS} {L : LS} {lf top : Int} (h : S1 x m K A L lf top) (hs : L.stage = 2) (ht : TickR x y ms) : y = x ∧ ∃ ks, IsOKeys L.op ks ∧ ms = accO (opL L.op ks) [0] := by
  rcases ht with ⟨h1, _⟩ | ⟨_, _, rfl, ks, h1, rfl⟩ | ⟨_, h1, _⟩ | ⟨_, h1, _⟩
  · exact absurd h.fine.e h1
  · rw [h.L] at h1 ⊢
    refine ⟨rfl, ks, h1, ?_⟩
    rw [h.ps, h.id]
    rfl
  · rw [h.L] at h1; exact absurd hs h1
  · rw [h.L] at h1; exact absurd hs h1
end Go.Proofs.YtgmdedkingampaaGreat

namespace Go.Proofs.YtgmdedkingampaaGreat
set_option maxRecDepth 1000000
set_option linter.unusedVariables false
set_option linter.unusedSimpArgs false

theorem idxI_zero : idxI [0] 0 = 0 := by decide
theorem hand_prom {x y : Nd} {ms : List Om} {low : Int} {m K : Nat} {A : AS} {L : LS} {lf top : Int} (h : S1 x m K A L lf top) (hs : L.stage = 1) (hb : L.ballot = 32) (hm : L.many = 1) (hp : ∀ i, L.prom i = false) (hk : ∀ a, L.kn a = none) (ho : ∀ a, L.op a = none) (hh : HandleR x 0 8 32 low (putV []) y ms) :
    ∃ L', S1 y m (K + 4097) A L' lf top ∧ L'.stage = 2 ∧ L'.ballot = 32 ∧ L'.many = 1 ∧ (∀ a, L'.op a = none) ∧ L'.next = max L.first low ∧ y.kn = x.kn ∧ y.next = x.next ∧ y.NA = x.NA ∧ y.nl = x.nl ∧ ms = [] := by
  obtain ⟨ms', h1, rfl⟩ := handR_of h rfl hh
  rcases h1 with ⟨h1, _⟩ | ⟨_, h1⟩ | ⟨h1, _⟩ | ⟨h1, _⟩ | ⟨h1, _⟩ | ⟨h1, _⟩ | ⟨h1, _⟩ | ⟨h1, _⟩ <;> try (exact absurd h1 (by decide))
  have hg : getV (putV []) = (0, []) := by rfl
  have hix : idxI x.ps 0 = 0 := by rw [h.ps]; exact idxI_zero
  have hok : PromOk x 0 32 (putV []) := ⟨by rw [hg], by rw [h.L, hix]; exact ⟨hs, hb.symm, by omega, by omega⟩, by rw [h.L]; exact hp _⟩
  have hL1 : promL1 x 0 low (putV []) = ⟨L.many, L.stage, L.ballot, max L.first low, L.next, addK L.prom 0, L.kn, L.op⟩ := by
    unfold promL1
    rw [hg, hix, h.L]
    rfl
  have hpe : L.prom = fun _ => false := funext hp
  have hmaj : (promL1 x 0 low (putV [])).many / 2 < cnt 32 (promL1 x 0 low (putV [])).prom := by
    rw [hL1]
    show L.many / 2 < (cnt 32 (addK L.prom 0) : Int)
    rw [hm, hpe]
    decide
  have hnf : ¬ farL (promL1 x 0 low (putV [])) := by
    rw [hL1]
    rintro ⟨s, h2, _⟩
    rw [show (L.kn s).isSome = false by rw [hk]; rfl] at h2
    cases h2
  rcases h1 with ⟨h1, _⟩ | ⟨_, h1, _⟩ | ⟨_, _, h1, _⟩ | ⟨_, _, _, en, ks, h2, h3, rfl, rfl⟩
  · exact absurd hok h1
  · exact absurd hmaj h1
  · exact absurd h1 hnf
  · rw [hL1] at h2 h3 ⊢
    have hen : en = max L.first low := by
      rcases h2.2.2 with h4 | ⟨s, h4, _⟩
      · exact h4
      · rw [show (L.kn s).isSome = false by rw [hk]; rfl] at h4; cases h4
    have hop : ∀ a, leadP ⟨L.many, L.stage, L.ballot, max L.first low, L.next, addK L.prom 0, L.kn, L.op⟩ en a = none := fun a => by
      unfold leadP
      rw [hen, if_neg (by show ¬ (max L.first low ≤ a ∧ a < max L.first low); omega)]
      exact ho a
    have hks : opL (leadP ⟨L.many, L.stage, L.ballot, max L.first low, L.next, addK L.prom 0, L.kn, L.op⟩ en) ks = [] := by
      unfold opL
      rw [List.filterMap_eq_nil_iff]
      intro a _
      rw [hop a]; rfl
    refine ⟨leadL ⟨L.many, L.stage, L.ballot, max L.first low, L.next, addK L.prom 0, L.kn, L.op⟩ en, ⟨h.fine.of rfl rfl rfl, h.id, h.ps, h.t, h.A, rfl, h.lf, h.top, h.na, ?_, h.nl⟩, rfl, hb, hm, hop, hen, rfl, rfl, rfl, rfl, ?_⟩
    · show x.NL + (getV (putV [])).2.length + 4097 ≤ K + 4097
      rw [hg]; have := h.NL; show x.NL + 0 + 4097 ≤ _; omega
    · rw [hks]; split <;> rfl
theorem prop_ok {x y : Nd} {ms : List Om} {xs : List Int} {er : Int} {m K : Nat} {A : AS} {L : LS} {lf top : Int} (h : S1 x m K A L lf top) (hs : L.stage = 2) (hn : L.next ≠ 18446744073709551615) (hh : PropR x xs y ms er) :
    S1 y m (K + 1) A (nextL (opP L ⟨L.next, L.ballot, xs⟩ (fun _ => false))) lf top ∧ y.kn = x.kn ∧ y.NA = x.NA ∧ y.nl = x.nl ∧ er = 0 ∧ ms = accO [⟨L.next, L.ballot, xs⟩] [0] := by
  rcases hh with ⟨h1, _⟩ | ⟨_, v, h1, rfl⟩
  · exact absurd h.fine.e h1
  · rcases h1 with ⟨h1, _⟩ | ⟨_, h1, _⟩ | ⟨_, _, rfl, rfl, rfl⟩
    · rw [h.L] at h1; exact absurd hs h1
    · rw [h.L] at h1; exact absurd h1 hn
    · refine ⟨⟨h.fine.of rfl rfl rfl, h.id, h.ps, h.t, h.A, ?_, h.lf, h.top, h.na, ?_, h.nl⟩, rfl, rfl, rfl, rfl, ?_⟩
      · show nextL (opP x.L ⟨x.L.next, x.L.ballot, xs⟩ (fun _ => false)) = _
        rw [h.L]
      · show x.NL + 1 ≤ K + 1
        have := h.NL; omega
      · rw [if_pos rfl, h.L, h.ps]
theorem hand_acc {x y : Nd} {ms : List Om} {xs : List Int} {s : Int} {m K : Nat} {A : AS} {L : LS} {lf : Int} (h : S1 x m K A L lf 32) (hA : A.promised = 32) (hl : A.low ≤ s) (hna : x.NA ≤ 19) (hh : HandleR x 0 9 32 s xs y ms)
    (hnd : need (noteB 2 [s, 32] (some xs)).length ≤ m) :
    ∃ m', m - need (noteB 2 [s, 32] (some xs)).length ≤ m' ∧ S1 y m' K (putA A ⟨s, 32, xs⟩) L 2 32 ∧ y.kn = x.kn ∧ y.nl = x.nl ∧ y.NA = x.NA + 1 ∧ ms = allO [0] 10 32 s [] := by
  obtain ⟨ms', h1, rfl⟩ := handR_of h rfl hh
  rcases h1 with ⟨h1, _⟩ | ⟨h1, _⟩ | ⟨_, rfl, rfl⟩ | ⟨h1, _⟩ | ⟨h1, _⟩ | ⟨h1, _⟩ | ⟨h1, _⟩ | ⟨h1, _⟩ <;> try (exact absurd h1 (by decide))
  have he : accE x.A ⟨s, 32, xs⟩ = 0 := by
    unfold accE
    rw [h.A, if_neg (by show ¬ (32 : Int) < A.promised; omega), if_neg (by show ¬ s < A.low; omega)]
  have hr : accR x.A ⟨s, 32, xs⟩ = putA A ⟨s, 32, xs⟩ := by unfold accR; rw [if_pos he, h.A]
  have hS : S1 (acceptedN x ⟨s, 32, xs⟩) m K (putA A ⟨s, 32, xs⟩) L 2 32 := by
    have := heard_S1 h (accR x.A ⟨s, 32, xs⟩) (x.NA + 1) (by omega)
    rw [hr] at this
    have e : acceptedN x ⟨s, 32, xs⟩ = { heardN x 32 with A := putA A ⟨s, 32, xs⟩, NA := x.NA + 1 } := by unfold acceptedN; rw [hr]
    rw [e]; exact this
  unfold acceptF
  rw [if_pos he]
  by_cases hsm : sameA x ⟨s, 32, xs⟩ = true
  · rw [if_pos hsm]
    refine ⟨m, by omega, hS, rfl, rfl, rfl, ?_⟩
    rw [if_pos hS.fine.e]
  · rw [if_neg hsm]
    have hg := noteN_fine hS.fine hnd
    have hq := noteN_same (acceptedN x ⟨s, 32, xs⟩) (noteB 2 [s, 32] (some xs))
    rw [if_pos hg.e]
    obtain ⟨k1, k2, k3, k4, k5, k6, k7, k8, k9, k10, k11, k12⟩ := hq
    refine ⟨m - need (noteB 2 [s, 32] (some xs)).length, Nat.le_refl _, ⟨hg, k1.trans hS.id, k2.trans hS.ps, k10.trans hS.t, k4.trans hS.A, k9.trans hS.L, k11.trans hS.lf, k12.trans hS.top, by show (noteN _ _).NA ≤ 20; rw [k3]; exact hS.na, by show (noteN _ _).NL ≤ K; rw [k8]; exact hS.NL, by show (noteN _ _).nl ≤ 20; rw [k5]; exact hS.nl⟩, k6, k5, k3, ?_⟩
    show (if (noteN (acceptedN x ⟨s, 32, xs⟩) (noteB 2 [s, 32] (some xs))).e = 0 then _ else _) = _
    rw [if_pos hg.e]
theorem hand_cnt {x y : Nd} {ms : List Om} {xs : List Int} {s : Int} {v : Vt} {g : Nat → Bool} {m K : Nat} {A : AS} {L : LS} {lf top : Int} (h : S1 x m K A L lf top) (hs : L.stage = 2) (hb : L.ballot = 32) (hm : L.many = 1) (ho : L.op s = some (v, g)) (hg : g = fun _ => false) (hv : v.slot = s) (hvm : v.slot ≠ 18446744073709551615) (hk : x.kn s = none) (hnl : x.nl ≤ 19) (hh : HandleR x 0 10 32 s xs y ms)
    (hnd : need (noteB 3 [v.slot] (some v.val)).length ≤ m) :
    ∃ nx, S1 y (m - need (noteB 3 [v.slot] (some v.val)).length) (K + 1) A (opD L s) lf top ∧ y.kn = Ln.putK x.kn s v.val ∧ y.next = nx ∧ y.NA = x.NA ∧ ms = allO [0] 12 0 s v.val := by
  obtain ⟨ms', h1, rfl⟩ := handR_of h rfl hh
  rcases h1 with ⟨h1, _⟩ | ⟨h1, _⟩ | ⟨h1, _⟩ | ⟨_, h1⟩ | ⟨h1, _⟩ | ⟨h1, _⟩ | ⟨h1, _⟩ | ⟨h1, _⟩ <;> try (exact absurd h1 (by decide))
  have hix : idxI x.ps 0 = 0 := by rw [h.ps]; exact idxI_zero
  have hc : CntOk x 0 32 := by unfold CntOk; rw [h.L, hix]; exact ⟨hs, hb.symm, by omega, by omega⟩
  have hmaj : x.L.many / 2 < (cnt 32 (addK g (idxI x.ps 0).toNat) : Int) := by rw [h.L, hm, hix, hg]; decide
  obtain ⟨y1, o, h1, h2⟩ := h1
  rcases h1 with ⟨h1, _⟩ | ⟨_, v', g', h3, ⟨_, rfl, rfl⟩ | ⟨h4, _⟩⟩
  · rcases h1 with h1 | h1
    · exact absurd hc h1
    · rw [h.L, ho] at h1; cases h1
  · rw [h.L, ho] at h3
    cases h3
    obtain ⟨nx, rfl, rfl⟩ := h2
    have hS : S1 { x with L := opD x.L v.slot, NL := x.NL + 1 } m (K + 1) A (opD L s) lf top := ⟨h.fine.of rfl rfl rfl, h.id, h.ps, h.t, h.A, by show opD x.L v.slot = _; rw [h.L, hv], h.lf, h.top, h.na, by show x.NL + 1 ≤ K + 1; have := h.NL; omega, h.nl⟩
    have hgn := noteN_fine hS.fine hnd
    have hq := noteN_same { x with L := opD x.L v.slot, NL := x.NL + 1 } (noteB 3 [v.slot] (some v.val))
    have hln : learnN { x with L := opD x.L v.slot, NL := x.NL + 1 } v.slot v.val nx = { noteN { x with L := opD x.L v.slot, NL := x.NL + 1 } (noteB 3 [v.slot] (some v.val)) with nl := x.nl + 1, kn := Ln.putK x.kn v.slot v.val, next := nx } := by
      unfold learnN
      rw [if_neg (by rw [hv]; show ¬ ((x.kn s).isSome = true ∨ s = 18446744073709551615); rw [hk]; intro hh; rcases hh with hh | hh; cases hh; exact hvm (hv.trans hh)), if_pos hgn.e]
    rw [hln]
    obtain ⟨k1, k2, k3, k4, k5, k6, k7, k8, k9, k10, k11, k12⟩ := hq
    refine ⟨nx, ⟨hgn.of rfl rfl rfl, k1.trans hS.id, k2.trans hS.ps, k10.trans hS.t, k4.trans hS.A, k9.trans hS.L, k11.trans hS.lf, k12.trans hS.top, by show (noteN _ _).NA ≤ 20; rw [k3]; exact hS.na, by show (noteN _ _).NL ≤ K + 1; rw [k8]; exact hS.NL, by show x.nl + 1 ≤ 20; omega⟩, by rw [hv], rfl, k3, ?_⟩
    rw [if_pos (show (noteN { x with L := opD x.L v.slot, NL := x.NL + 1 } (noteB 3 [v.slot] (some v.val))).e = 0 from hgn.e), h.ps, hv]
  · rw [h.L, ho] at h3
    cases h3
    exact absurd hmaj h4
theorem hand_cnt0 {x y : Nd} {ms : List Om} {xs : List Int} {b s : Int} {m K : Nat} {A : AS} {L : LS} {lf top : Int} (h : S1 x m K A L lf top) (ho : L.op s = none) (hh : HandleR x 0 10 b s xs y ms) : y = x ∧ ms = [] := by
  obtain ⟨ms', h1, rfl⟩ := handR_of h rfl hh
  rcases h1 with ⟨h1, _⟩ | ⟨h1, _⟩ | ⟨h1, _⟩ | ⟨_, h1⟩ | ⟨h1, _⟩ | ⟨h1, _⟩ | ⟨h1, _⟩ | ⟨h1, _⟩ <;> try (exact absurd h1 (by decide))
  obtain ⟨y1, o, h1, h2⟩ := h1
  rcases h1 with ⟨_, rfl, rfl⟩ | ⟨_, v', g', h3, _⟩
  · obtain ⟨rfl, rfl⟩ := h2
    exact ⟨rfl, by split <;> rfl⟩
  · rw [h.L, ho] at h3; cases h3
theorem hand_lrn {x y : Nd} {ms : List Om} {xs : List Int} {b s : Int} {m K : Nat} {A : AS} {L : LS} {lf top : Int} (h : S1 x m K A L lf top) (hk : (x.kn s).isSome = true) (hh : HandleR x 0 12 b s xs y ms) : y = x ∧ ms = [] := by
  obtain ⟨ms', h1, rfl⟩ := handR_of h rfl hh
  rcases h1 with ⟨h1, _⟩ | ⟨h1, _⟩ | ⟨h1, _⟩ | ⟨h1, _⟩ | ⟨h1, _⟩ | ⟨_, ⟨nx, rfl⟩, rfl⟩ | ⟨h1, _⟩ | ⟨h1, _⟩ <;> try (exact absurd h1 (by decide))
  refine ⟨?_, by split <;> rfl⟩
  unfold learnN
  rw [if_pos (Or.inl hk)]
end Go.Proofs.YtgmdedkingampaaGreat

namespace Go.Proofs.YtgmdedkingampaaGreat
set_option maxRecDepth 1000000
set_option linter.unusedVariables false
set_option linter.unusedSimpArgs false

structure Zr (x : Nd) : Prop where
  kn : x.kn = fun _ => none
  next : x.next = 0
  NA : x.NA = 0
  nl : x.nl = 0
theorem Zr.of {x y : Nd} (h : Zr x) (h1 : y.kn = x.kn) (h2 : y.next = x.next) (h3 : y.NA = x.NA) (h4 : y.nl = x.nl) : Zr y := ⟨h1.trans h.kn, h2.trans h.next, h3.trans h.NA, h4.trans h.nl⟩
def awA : AS := ⟨32, 0, fun _ => none⟩
def awB : LS := beginL (newLS 1) 32 0
structure Ldr (L : LS) : Prop where
  st : L.stage = 2
  b : L.ballot = 32
  m : L.many = 1
  n : L.next = 0
def PA (lf : Int) (xs : List Nd) (ms : List (Int × Om)) : Prop := ∃ x, xs = [x] ∧ S1 x 400 0 emptyAS (newLS 1) lf 0 ∧ Zr x ∧ ms = []
def PB (m0 : Om) (xs : List Nd) (ms : List (Int × Om)) : Prop := ∃ x, xs = [x] ∧ S1 x 399 0 awA awB 2 32 ∧ Zr x ∧ ms = [(0, m0)]
def PC (xs : List Nd) (ms : List (Int × Om)) : Prop := ∃ x L, xs = [x] ∧ S1 x 399 4097 awA L 2 32 ∧ Ldr L ∧ (∀ a, L.op a = none) ∧ Zr x ∧ ms = []
def awPrep : Om := ⟨0, 7, 32, 0, []⟩
def awProm : Om := ⟨0, 8, 32, 0, putV []⟩
def awJ : Nat → List Nd → List (Int × Om) → Prop
  | 0 => PA 2
  | 1 => PA 1
  | 2 => PC
  | 3 => PC
  | _ => fun _ _ => False
def awT : Nat → Nat → List Nd → List (Int × Om) → Prop
  | 0, 0 => PA 2
  | 0, 1 => PA 1
  | 1, 0 => PA 1
  | 1, 1 => PB awPrep
  | 2, 0 => PC
  | 2, 1 => PC
  | _, _ => fun _ _ => False
def awD : Nat → Nat → List Nd → List (Int × Om) → Prop
  | 0, 0 => PA 1
  | 1, 0 => PB awPrep
  | 1, 1 => PB awProm
  | 1, 2 => PC
  | 2, 0 => PC
  | _, _ => fun _ _ => False
/-- One message, for the only node. -/
theorem del_one {x : Nd} {m0 : Om} {ms : List (Int × Om)} {xs' : List Nd} {ms' : List (Int × Om)} (hd : m0.dst = 0) (h : DelR [x] ((0, m0) :: ms) 0 false xs' ms') :
    ∃ y outs, HandleR x 0 m0.kind m0.ballot m0.slot m0.body y outs ∧ xs' = [y] ∧ ms' = sendO 0 outs ms := by
  rcases h with ⟨h1, _⟩ | ⟨p, hp, h1⟩
  · cases h1
  · rw [show 0 % ((0, m0) :: ms).length = 0 from Nat.zero_mod _] at hp h1
    obtain rfl : ((0 : Int), m0) = p := by simpa using hp
    rcases h1 with ⟨h1, _⟩ | ⟨j, x', y, outs, h1, h2, h3, rfl, rfl⟩
    · exact absurd ⟨by show 0 ≤ m0.dst; omega, by show m0.dst < (1 : Int); omega⟩ h1
    · have hj : j = 0 := by have h9 : m0.dst = (j : Int) := h1; rw [hd] at h9; omega
      subst hj
      obtain rfl : x = x' := by simpa using h2
      refine ⟨y, outs, h3, rfl, ?_⟩
      show sendO m0.dst outs ms = _
      rw [hd]
theorem u1_0 : U1 0 := by unfold U1; decide
theorem u1_32 : U1 32 := by unfold U1; decide
theorem PA_ok {lf : Int} (hl : 1 ≤ lf ∧ lf ≤ 2) {xs : List Nd} {ms : List (Int × Om)} (h : PA lf xs ms) : OkSt 100 1 xs ms := by
  obtain ⟨x, rfl, h1, h2, rfl⟩ := h
  refine ⟨rfl, by decide, fun y hy _ => ?_, by intro p hp; cases hp⟩
  obtain rfl : y = x := by simpa using hy
  exact h1.ok (by decide) (by decide) (by intro a v hh; cases hh) (by intro s v g hh; cases hh) (by omega) u1_0
theorem PB_ok {m0 : Om} (hm : OmOk 100 m0) {xs : List Nd} {ms : List (Int × Om)} (h : PB m0 xs ms) : OkSt 100 1 xs ms := by
  obtain ⟨x, rfl, h1, h2, rfl⟩ := h
  refine ⟨rfl, by simp, fun y hy _ => ?_, fun p hp => ?_⟩
  · obtain rfl : y = x := by simpa using hy
    exact h1.ok (by decide) (by decide) (by intro a v hh; cases hh) (by intro s v g hh; cases hh) (by decide) u1_32
  · obtain rfl : p = (0, m0) := by simpa using hp
    exact hm
theorem PC_ok {xs : List Nd} {ms : List (Int × Om)} (h : PC xs ms) : OkSt 100 1 xs ms := by
  obtain ⟨x, L, rfl, h1, h2, h3, h4, rfl⟩ := h
  refine ⟨rfl, by decide, fun y hy _ => ?_, by intro p hp; cases hp⟩
  obtain rfl : y = x := by simpa using hy
  exact h1.ok (by decide) (by decide) (by intro a v hh; cases hh) (by intro s v g hh; rw [h3] at hh; cases hh) (by decide) u1_32
theorem awPrep_ok : OmOk 100 awPrep := ⟨u1_32, u1_0, (fun z hz => by cases hz), by decide, by decide⟩
theorem awProm_ok : OmOk 100 awProm := ⟨u1_32, u1_0, putV_U8 (fun v hv => by cases hv), by decide, by decide⟩
theorem opL_none {l : Int → Option (Vt × (Nat → Bool))} (h : ∀ a, l a = none) (ks : List Int) : opL l ks = [] := by
  unfold opL
  rw [List.filterMap_eq_nil_iff]
  intro a _
  rw [h a]; rfl
theorem PA_tick {xs : List Nd} {ms : List (Int × Om)} {x y : Nd} {outs : List Om} (h : PA 2 xs ms) (hx : xs[0]? = some x) (ht : TickR x y outs) : PA 1 (xs.set 0 y) (sendO 0 outs ms) := by
  obtain ⟨x', rfl, h1, h2, rfl⟩ := h
  obtain rfl : x' = x := by simpa using hx
  obtain ⟨g1, g2, g3, g4, g5, rfl⟩ := tick_wait h1 (by decide) (by decide) ht
  exact ⟨y, rfl, g1, h2.of g2 g3 g4 g5, rfl⟩
theorem PA_stand {xs : List Nd} {ms : List (Int × Om)} {x y : Nd} {outs : List Om} (h : PA 1 xs ms) (hx : xs[0]? = some x) (ht : TickR x y outs) : PB awPrep (xs.set 0 y) (sendO 0 outs ms) := by
  obtain ⟨x', rfl, h1, h2, rfl⟩ := h
  obtain rfl : x' = x := by simpa using hx
  obtain ⟨g1, g2, g3, g4, g5, rfl⟩ := tick_stand h1 (by decide) rfl rfl (by decide) ht
  rw [h2.next] at g1
  exact ⟨y, rfl, g1, h2.of g2 g3 g4 g5, by rw [h2.next]; rfl⟩
theorem PC_tick {xs : List Nd} {ms : List (Int × Om)} {x y : Nd} {outs : List Om} (h : PC xs ms) (hx : xs[0]? = some x) (ht : TickR x y outs) : PC (xs.set 0 y) (sendO 0 outs ms) := by
  obtain ⟨x', L, rfl, h1, h2, h3, h4, rfl⟩ := h
  obtain rfl : x' = x := by simpa using hx
  obtain ⟨rfl, ks, _, rfl⟩ := tick_lead h1 h2.st ht
  rw [opL_none h3]
  exact ⟨y, L, rfl, h1, h2, h3, h4, rfl⟩
theorem PB_prep {xs xs' : List Nd} {ms ms' : List (Int × Om)} (h : PB awPrep xs ms) (hd : DelR xs ms 0 false xs' ms') : PB awProm xs' ms' := by
  obtain ⟨x, rfl, h1, h2, rfl⟩ := h
  obtain ⟨y, outs, g1, rfl, rfl⟩ := del_one rfl hd
  obtain ⟨k1, k2, k3, k4, k5, rfl⟩ := hand_prep h1 rfl (fun _ => rfl) g1
  exact ⟨y, rfl, k1, h2.of k2 k3 k4 k5, rfl⟩
theorem PB_prom {xs xs' : List Nd} {ms ms' : List (Int × Om)} (h : PB awProm xs ms) (hd : DelR xs ms 0 false xs' ms') : PC xs' ms' := by
  obtain ⟨x, rfl, h1, h2, rfl⟩ := h
  obtain ⟨y, outs, g1, rfl, rfl⟩ := del_one rfl hd
  obtain ⟨L', k1, k2, k3, k4, k5, k6, k7, k8, k9, k10, rfl⟩ := hand_prom h1 rfl rfl rfl (fun _ => rfl) (fun _ => rfl) (fun _ => rfl) g1
  exact ⟨y, L', rfl, k1, ⟨k2, k3, k4, k6⟩, k5, h2.of k7 k8 k9 k10, rfl⟩
end Go.Proofs.YtgmdedkingampaaGreat

namespace Go.Proofs.YtgmdedkingampaaGreat
set_option maxRecDepth 1000000
set_option linter.unusedVariables false
set_option linter.unusedSimpArgs false

def awV : Vt := ⟨0, 32, [120]⟩
def awAcc : Om := ⟨0, 9, 32, 0, [120]⟩
def awAcd : Om := ⟨0, 10, 32, 0, []⟩
def awLrn : Om := ⟨0, 12, 0, 0, [120]⟩
structure AOk (A : AS) : Prop where
  p : A.promised = 32
  l : A.low = 0
  v : ∀ a v, A.l a = some v → v.val.length ≤ 100
structure LOp (L : LS) : Prop where
  st : L.stage = 2
  b : L.ballot = 32
  m : L.many = 1
  o : L.op 0 = some (awV, fun _ => false)
  n : ∀ a, a ≠ 0 → L.op a = none
def PE (n : Nat) (msgs : List Om) (xs : List Nd) (ms : List (Int × Om)) : Prop :=
  ∃ x A L m, xs = [x] ∧ 390 ≤ m + n ∧ S1 x m 4098 A L 2 32 ∧ AOk A ∧ LOp L ∧ x.kn = (fun _ => none) ∧ x.nl = 0 ∧ x.NA ≤ n ∧ ms = msgs.map (fun o => ((0 : Int), o))
def PG (msgs : List Om) (xs : List Nd) (ms : List (Int × Om)) : Prop :=
  ∃ x A L m, xs = [x] ∧ 380 ≤ m ∧ S1 x m 4099 A L 2 32 ∧ AOk A ∧ L.stage = 2 ∧ (∀ a, L.op a = none) ∧ x.kn = Ln.putK (fun _ => none) 0 [120] ∧ ms = msgs.map (fun o => ((0 : Int), o))
def aw2J : Nat → List Nd → List (Int × Om) → Prop
  | 0 => PE 0 [awAcc]
  | 1 => PG []
  | _ => fun _ _ => False
def aw2T : Nat → Nat → List Nd → List (Int × Om) → Prop
  | 0, 0 => PE 0 [awAcc]
  | 0, 1 => PE 0 [awAcc, awAcc]
  | _, _ => fun _ _ => False
def aw2D : Nat → Nat → List Nd → List (Int × Om) → Prop
  | 0, 0 => PE 0 [awAcc, awAcc]
  | 0, 1 => PE 1 [awAcc, awAcd]
  | 0, 2 => PE 2 [awAcd, awAcd]
  | 0, 3 => PG [awAcd, awLrn]
  | 0, 4 => PG [awLrn]
  | 0, 5 => PG []
  | _, _ => fun _ _ => False
theorem awAcc_ok : OmOk 100 awAcc := ⟨u1_32, u1_0, (fun z hz => by obtain rfl : z = 120 := by simpa [awAcc] using hz
                                                                   decide), by decide, by decide⟩
theorem awAcd_ok : OmOk 100 awAcd := ⟨u1_32, u1_0, (fun z hz => by cases hz), by decide, by decide⟩
theorem awLrn_ok : OmOk 100 awLrn := ⟨u1_0, u1_0, awAcc_ok.u8, by decide, by decide⟩
theorem PE_ok {n : Nat} (hn : n ≤ 2) {msgs : List Om} (hm : ∀ o ∈ msgs, OmOk 100 o) (hl : msgs.length ≤ 400) {xs : List Nd} {ms : List (Int × Om)} (h : PE n msgs xs ms) : OkSt 100 1 xs ms := by
  obtain ⟨x, A, L, m, rfl, h1, h2, h3, h4, h5, h6, h7, rfl⟩ := h
  refine ⟨rfl, by simpa using hl, fun y hy _ => ?_, fun p hp => ?_⟩
  · obtain rfl : y = x := by simpa using hy
    refine h2.ok (by decide) (by omega) h3.v (fun s v g hh => ?_) (by decide) u1_32
    by_cases hs : s = 0
    · subst hs; rw [h4.o] at hh; cases hh; decide
    · rw [h4.n s hs] at hh; cases hh
  · obtain ⟨o, ho, rfl⟩ := List.mem_map.1 hp
    exact hm o ho
theorem PG_ok {msgs : List Om} (hm : ∀ o ∈ msgs, OmOk 100 o) (hl : msgs.length ≤ 400) {xs : List Nd} {ms : List (Int × Om)} (h : PG msgs xs ms) : OkSt 100 1 xs ms := by
  obtain ⟨x, A, L, m, rfl, h1, h2, h3, h4, h5, h6, rfl⟩ := h
  refine ⟨rfl, by simpa using hl, fun y hy _ => ?_, fun p hp => ?_⟩
  · obtain rfl : y = x := by simpa using hy
    exact h2.ok (by decide) (by omega) h3.v (fun s v g hh => by rw [h5] at hh; cases hh) (by decide) u1_32
  · obtain ⟨o, ho, rfl⟩ := List.mem_map.1 hp
    exact hm o ho
theorem LOp_keys {L : LS} (h : LOp L) {ks : List Int} (hk : IsOKeys L.op ks) : ks = [0] :=
  rise_unique hk.1 (by simp) (fun a => by
    rw [hk.2 a]
    by_cases ha : a = 0
    · subst ha; rw [h.o]; simp
    · rw [h.n a ha]; simp [ha])
theorem PE_tick {xs : List Nd} {ms : List (Int × Om)} {x y : Nd} {outs : List Om} (h : PE 0 [awAcc] xs ms) (hx : xs[0]? = some x) (ht : TickR x y outs) : PE 0 [awAcc, awAcc] (xs.set 0 y) (sendO 0 outs ms) := by
  obtain ⟨x', A, L, m, rfl, h1, h2, h3, h4, h5, h6, h7, rfl⟩ := h
  obtain rfl : x' = x := by simpa using hx
  obtain ⟨rfl, ks, hk, rfl⟩ := tick_lead h2 h4.st ht
  obtain rfl := LOp_keys h4 hk
  refine ⟨y, A, L, m, rfl, h1, h2, h3, h4, h5, h6, h7, ?_⟩
  have e : opL L.op [0] = [awV] := by unfold opL; simp [h4.o]
  rw [e]
  rfl
theorem AOk.put {A : AS} (h : AOk A) : AOk (putA A awV) :=
  ⟨rfl, h.l, fun a v hh => by
    have hh : (if a = awV.slot then some awV else A.l a) = some v := hh
    by_cases ha : a = awV.slot
    · rw [if_pos ha] at hh; cases hh; decide
    · rw [if_neg ha] at hh; exact h.v a v hh⟩
theorem PE_acc {n : Nat} (hn : n ≤ 1) {rest : List Om} (hr : rest.length ≤ 100) {xs xs' : List Nd} {ms ms' : List (Int × Om)} (h : PE n (awAcc :: rest) xs ms) (hd : DelR xs ms 0 false xs' ms') : PE (n + 1) (rest ++ [awAcd]) xs' ms' := by
  obtain ⟨x, A, L, m, rfl, h1, h2, h3, h4, h5, h6, h7, rfl⟩ := h
  obtain ⟨y, outs, g1, rfl, rfl⟩ := del_one (m0 := awAcc) rfl hd
  have hnd : need (noteB 2 [0, 32] (some [120])).length = 1 := by rfl
  obtain ⟨m', k0, k1, k2, k3, k4, rfl⟩ := hand_acc h2 h3.p (by rw [h3.l]; decide) (by omega) g1 (by show need (noteB 2 [0, 32] (some [120])).length ≤ m; rw [hnd]; omega)
  rw [show need (noteB 2 [awAcc.slot, 32] (some awAcc.body)).length = 1 from hnd] at k0
  refine ⟨y, putA A awV, L, m', rfl, by omega, k1, h3.put, h4, k2.trans h5, k3.trans h6, by rw [k4]; omega, ?_⟩
  unfold sendO
  rw [List.map_append, List.take_of_length_le (by rw [List.length_map]; show 1 ≤ 400 - rest.length; omega)]
  rfl
theorem PE_cnt {xs xs' : List Nd} {ms ms' : List (Int × Om)} (h : PE 2 [awAcd, awAcd] xs ms) (hd : DelR xs ms 0 false xs' ms') : PG [awAcd, awLrn] xs' ms' := by
  obtain ⟨x, A, L, m, rfl, h1, h2, h3, h4, h5, h6, h7, rfl⟩ := h
  obtain ⟨y, outs, g1, rfl, rfl⟩ := del_one (m0 := awAcd) rfl hd
  have hnd : need (noteB 3 [0] (some [120])).length = 1 := by rfl
  obtain ⟨nx, k1, k2, k3, k4, rfl⟩ := hand_cnt h2 h4.st h4.b h4.m h4.o rfl rfl (by decide) (by rw [h5]) (by omega) g1 (by show need (noteB 3 [0] (some [120])).length ≤ m; rw [hnd]; omega)
  rw [show need (noteB 3 [awV.slot] (some awV.val)).length = 1 from hnd] at k1
  refine ⟨y, A, opD L 0, m - 1, rfl, by omega, k1, h3, h4.st, fun a => ?_, by rw [k2, h5]; rfl, rfl⟩
  show (if a = 0 then none else L.op a) = none
  by_cases ha : a = 0
  · rw [if_pos ha]
  · rw [if_neg ha]; exact h4.n a ha
theorem PG_cnt {xs xs' : List Nd} {ms ms' : List (Int × Om)} (h : PG [awAcd, awLrn] xs ms) (hd : DelR xs ms 0 false xs' ms') : PG [awLrn] xs' ms' := by
  obtain ⟨x, A, L, m, rfl, h1, h2, h3, h4, h5, h6, rfl⟩ := h
  obtain ⟨y, outs, g1, rfl, rfl⟩ := del_one (m0 := awAcd) rfl hd
  obtain ⟨rfl, rfl⟩ := hand_cnt0 h2 (h5 _) g1
  exact ⟨y, A, L, m, rfl, h1, h2, h3, h4, h5, h6, rfl⟩
theorem PG_lrn {xs xs' : List Nd} {ms ms' : List (Int × Om)} (h : PG [awLrn] xs ms) (hd : DelR xs ms 0 false xs' ms') : PG [] xs' ms' := by
  obtain ⟨x, A, L, m, rfl, h1, h2, h3, h4, h5, h6, rfl⟩ := h
  obtain ⟨y, outs, g1, rfl, rfl⟩ := del_one (m0 := awLrn) rfl hd
  obtain ⟨rfl, rfl⟩ := hand_lrn h2 (by rw [h6]; show (Ln.putK (fun _ => none) 0 [120] 0).isSome = true; rw [Ln.putK_self]; rfl) g1
  exact ⟨y, A, L, m, rfl, h1, h2, h3, h4, h5, h6, rfl⟩
end Go.Proofs.YtgmdedkingampaaGreat
