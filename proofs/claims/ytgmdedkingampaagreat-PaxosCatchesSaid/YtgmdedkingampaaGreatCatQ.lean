/-
  Plain: an election of three, values one by one, and how one that missed them has them.
-/
import Derived.Test.YtgmdedkingampaaGreatCatP
set_option linter.unusedVariables false
set_option linter.unusedSimpArgs false
namespace Go.Proofs.YtgmdedkingampaaGreat
open Go.ChangeShapes Go.WideShapes Go.ChangeAt Go.RowKit Go.Maps
set_option maxRecDepth 1000000

/-- The first j values are known. -/
def KnV (V : List (List Int)) (j : Nat) : Ln.Kn := fun s => if 0 ≤ s ∧ s < (j : Int) then V[s.toNat]? else none
theorem KnV_zero (V : List (List Int)) : KnV V 0 = fun _ => none := by
  funext s
  unfold KnV
  rw [if_neg (by omega)]
theorem KnV_none (V : List (List Int)) {j : Nat} {s : Int} (h : (j : Int) ≤ s) : KnV V j s = none := by unfold KnV; rw [if_neg (by omega)]
theorem KnV_some (V : List (List Int)) {j s : Nat} (h : s < j) : KnV V j (s : Int) = V[s]? := by unfold KnV; rw [if_pos (by omega)]; rfl
theorem KnV_put {V : List (List Int)} {j : Nat} {v : List Int} (h : V[j]? = some v) : Ln.putK (KnV V j) j v = KnV V (j + 1) := by
  funext s
  unfold Ln.putK KnV
  by_cases e : s = j
  · subst e
    rw [if_pos rfl, if_pos (by omega), Int.toNat_natCast, h]
  · rw [if_neg e]
    by_cases h1 : 0 ≤ s ∧ s < (j : Int)
    · rw [if_pos h1, if_pos (by omega)]
    · rw [if_neg h1, if_neg (by omega)]
theorem KnV_next {V : List (List Int)} {j : Nat} (h : j ≤ V.length) : Ln.IsNext (KnV V j) j := by
  refine ⟨by omega, fun s h0 h1 => ?_, KnV_none V (Int.le_refl _)⟩
  obtain ⟨i, rfl⟩ : ∃ i : Nat, s = i := ⟨s.toNat, by omega⟩
  rw [KnV_some V (by omega), List.getElem?_eq_getElem (by omega)]
  simp
theorem X3.nx {k m c j : Nat} {A : AS} {L : LS} {lf top : Int} {V : List (List Int)} {x : Nd} (h : X3 k m c A L lf top (KnV V j) x) (hj : j ≤ V.length) (hf : NdFacts x) : x.next = j := by
  have h1 := hf.nx
  rw [h.kn] at h1
  exact h1.unique (KnV_next hj)
/-- One that follows; the flag: it never voted. -/
def Fo (V : List (List Int)) (e : Bool) (k m c j : Nat) (l : Int) (x : Nd) : Prop :=
  ∃ A L lf top, X3 k m c A L lf top (KnV V j) x ∧ (A.low = 0 ∧ A.promised ≤ 32 ∧ ∀ a v, A.l a = some v → v.val.length ≤ 30) ∧ (e = true → ∀ a, A.l a = none) ∧ (L.stage = 0 ∧ ∀ s, L.op s = none) ∧ (l ≤ lf ∧ lf ≤ 1000) ∧ (0 ≤ top ∧ top ≤ 32)
def opAt (s : Nat) (o : Option (Vt × (Nat → Bool))) : Int → Option (Vt × (Nat → Bool)) := fun a => if a = (s : Int) then o else none
/-- The one that leads: slot nx is its next one, j values are known; what is open at slot s. -/
def Ld (V : List (List Int)) (m c nx j s : Nat) (o : Option (Vt × (Nat → Bool))) (x : Nd) : Prop :=
  ∃ A L, X3 0 m c A L 2 32 (KnV V j) x ∧ (A.low = 0 ∧ A.promised ≤ 32 ∧ ∀ a v, A.l a = some v → v.val.length ≤ 30) ∧ (L.stage = 2 ∧ L.ballot = 32 ∧ L.many = 3 ∧ L.next = nx) ∧ L.op = opAt s o
variable {V : List (List Int)} {m c j nx s : Nat} {x y : Nd} {outs : List Om} {o : Option (Vt × (Nat → Bool))}
theorem Fo.ok {e : Bool} {k : Nat} {l : Int} (h : Fo V e k m c j l x) (hk : k < 3) (hc : c ≤ 800) (hm : 3 ≤ m) (hl : 1 ≤ l) : NdOk x 100 ∧ TkOk x := by
  obtain ⟨A, L, lf, top, h1, h2, h3, h4, h5, h6⟩ := h
  exact h1.ok hk hc hm h2.2.2 (fun s v g ho => by rw [h4.2] at ho; cases ho) (by omega) (by unfold U1; omega)
theorem Ld.ok (h : Ld V m c nx j s o x) (hc : c ≤ 800) (hm : 3 ≤ m) (ho : ∀ v g, o = some (v, g) → v.val.length ≤ 30) : NdOk x 100 ∧ TkOk x := by
  obtain ⟨A, L, h1, h2, h3, h4⟩ := h
  refine h1.ok (by decide) hc hm h2.2.2 (fun a v g hv => ?_) (by decide) (by unfold U1; omega)
  rw [h4] at hv
  unfold opAt at hv
  split at hv
  · exact ho v g hv
  · cases hv
theorem Fo.mono {e : Bool} {k m' c' : Nat} {l l' : Int} (h : Fo V e k m c j l x) (hm : m' ≤ m) (hc : c ≤ c') (hl : l' ≤ l) : Fo V e k m' c' j l' x := by
  obtain ⟨A, L, lf, top, h1, h2, h3, h4, h5, h6⟩ := h
  exact ⟨A, L, lf, top, h1.mono hm hc, h2, h3, h4, ⟨by omega, h5.2⟩, h6⟩
theorem Fo.bare {e : Bool} {k : Nat} {l : Int} (h : Fo V e k m c j l x) : Fo V false k m c j l x := by
  obtain ⟨A, L, lf, top, h1, h2, h3, h4, h5, h6⟩ := h
  exact ⟨A, L, lf, top, h1, h2, (fun e => by cases e), h4, h5, h6⟩
theorem Ld.mono {m' c' : Nat} (h : Ld V m c nx j s o x) (hm : m' ≤ m) (hc : c ≤ c') : Ld V m' c' nx j s o x := by
  obtain ⟨A, L, h1, h2, h3, h4⟩ := h
  exact ⟨A, L, h1.mono hm hc, h2, h3, h4⟩
theorem Ld.move {s' : Nat} (h : Ld V m c nx j s none x) : Ld V m c nx j s' none x := by
  obtain ⟨A, L, h1, h2, h3, h4⟩ := h
  refine ⟨A, L, h1, h2, h3, ?_⟩
  rw [h4]
  funext a
  unfold opAt
  split <;> split <;> rfl
theorem Fo.nxt {e : Bool} {k : Nat} {l : Int} (h : Fo V e k m c j l x) (hj : j ≤ V.length) (hf : NdFacts x) : x.next = j := by
  obtain ⟨A, L, lf, top, h1, _⟩ := h
  exact h1.nx hj hf
theorem Ld.nxt (h : Ld V m c nx j s o x) (hj : j ≤ V.length) (hf : NdFacts x) : x.next = j := by
  obtain ⟨A, L, h1, _⟩ := h
  exact h1.nx hj hf
theorem Fo.tick {e : Bool} {k : Nat} {l : Int} (h : Fo V e k m c j l x) (hl : 2 ≤ l) (ht : TickR x y outs) : Fo V e k m c j (l - 1) y ∧ outs = [] := by
  obtain ⟨A, L, lf, top, h1, h2, h3, h4, h5, h6⟩ := h
  obtain ⟨g1, g2⟩ := h1.wait (by omega) (by omega) ht
  exact ⟨⟨A, L, lf - 1, top, g1, h2, h3, h4, by omega, h6⟩, g2⟩
def oPrep (k : Nat) : Om := ⟨k, 7, 32, 0, []⟩
def oProm : Om := ⟨0, 8, 32, 0, putV []⟩
def oBeat (k n : Nat) : Om := ⟨k, 18, 32, n, []⟩
def oAcc (k s : Nat) (v : List Int) : Om := ⟨k, 9, 32, s, v⟩
def oAcd (s : Nat) : Om := ⟨0, 10, 32, s, []⟩
def oLrn (k s : Nat) (v : List Int) : Om := ⟨k, 12, 0, s, v⟩
def oCat (n : Nat) : Om := ⟨0, 13, 0, n, []⟩
theorem Fo.prep {k : Nat} {l : Int} (h : Fo V true k m c j l x) (hk : k < 3) (hm : 1 ≤ m) (hh : HandleR x 0 7 32 0 [] y outs) : Fo V true k (m - 1) c j (2 * (k + 1)) y ∧ outs = [oProm] := by
  obtain ⟨A, L, lf, top, h1, h2, h3, h4, h5, h6⟩ := h
  obtain ⟨g1, g2⟩ := h1.prep (Or.inl rfl) h6.2 h2.2.1 (h3 rfl) hm hh
  refine ⟨⟨_, L, _, _, g1, ⟨h2.1, Int.le_refl _, h2.2.2⟩, h3, h4, by omega, by omega⟩, ?_⟩
  rw [g2, h2.1]
  rfl
theorem Fo.beat {e : Bool} {k : Nat} {l : Int} {n : Nat} (h : Fo V e k m c j l x) (hk : k < 3) (hj : j ≤ V.length) (hf : NdFacts x) (hh : HandleR x 0 18 32 n [] y outs) : Fo V e k m c j (2 * (k + 1)) y ∧ outs = if n ≤ j then [] else [oCat j] := by
  have hnx := h.nxt hj hf
  obtain ⟨A, L, lf, top, h1, h2, h3, h4, h5, h6⟩ := h
  obtain ⟨g1, g2⟩ := h1.beat h6.2 (by omega) hh
  refine ⟨⟨A, _, _, _, g1, h2, h3, ?_, by omega, by omega⟩, ?_⟩
  · split
    · exact ⟨rfl, fun _ => rfl⟩
    · exact h4
  · rw [g2, hnx]
    by_cases e : n ≤ j
    · rw [if_pos (by omega), if_pos e]
    · rw [if_neg (by omega), if_neg e]; rfl
theorem vl_put {A : AS} {v : Vt} (h : ∀ a w, A.l a = some w → w.val.length ≤ 30) (hv : v.val.length ≤ 30) : ∀ a w, (putA A v).l a = some w → w.val.length ≤ 30 := fun a w hw => by
  unfold putA at hw
  simp only at hw
  split at hw
  · cases hw; exact hv
  · exact h a w hw
theorem Fo.acc {e : Bool} {k : Nat} {l : Int} {v : List Int} (h : Fo V e k m c j l x) (hk : k < 3) (hv : v.length ≤ 30) (hm : 2 ≤ m) (hh : HandleR x 0 9 32 s v y outs) : Fo V false k (m - 2) (c + 1) j (2 * (k + 1)) y ∧ outs = [oAcd s] := by
  obtain ⟨A, L, lf, top, h1, h2, h3, h4, h5, h6⟩ := h
  obtain ⟨g1, g2⟩ := h1.acc h6.2 h2.2.1 (by omega) hv hm hh
  exact ⟨⟨_, L, _, _, g1, ⟨h2.1, Int.le_refl _, vl_put h2.2.2 hv⟩, (fun e => by cases e), h4, by omega, by omega⟩, g2⟩
theorem Fo.lrn {e : Bool} {k : Nat} {l : Int} {v : List Int} (h : Fo V e k m c j l x) (hv : v.length ≤ 30) (hV : V[j]? = some v) (hj : j ≤ 1000) (hm : 2 ≤ m) (hh : HandleR x 0 12 0 j v y outs) : Fo V e k (m - 2) (c + 1) (j + 1) l y ∧ outs = [] := by
  obtain ⟨A, L, lf, top, h1, h2, h3, h4, h5, h6⟩ := h
  obtain ⟨g1, g2⟩ := h1.lrn (KnV_none V (Int.le_refl _)) (by omega) hv hm hh
  rw [KnV_put hV] at g1
  exact ⟨⟨A, L, lf, top, g1, h2, h3, h4, h5, h6⟩, g2⟩
theorem Ld.tick (h : Ld V m c nx j s none x) (hj : j ≤ V.length) (hf : NdFacts x) (ht : TickR x y outs) : Ld V m c nx j s none y ∧ outs = [oBeat 1 j, oBeat 2 j] := by
  have hnx := h.nxt hj hf
  obtain ⟨A, L, h1, h2, h3, h4⟩ := h
  obtain ⟨rfl, g2⟩ := h1.leadTick h3.1 h3.2.1 (fun a => by rw [h4]; unfold opAt; split <;> rfl) ht
  refine ⟨⟨A, L, h1, h2, h3, h4⟩, ?_⟩
  rw [g2, hnx]
  rfl
theorem Ld.prop {v : List Int} {er : Int} (h : Ld V m c nx j s none x) (hn : nx ≤ 1000) (hp : PropR x v y outs er) : Ld V m (c + 1) (nx + 1) j nx (some (⟨nx, 32, v⟩, fun _ => false)) y ∧ er = 0 ∧ outs = [oAcc 0 nx v, oAcc 1 nx v, oAcc 2 nx v] := by
  obtain ⟨A, L, h1, h2, h3, h4⟩ := h
  obtain ⟨g1, g2, g3⟩ := h1.prop h3.1 (by rw [h3.2.2.2]; omega) hp
  rw [h3.2.2.2, h3.2.1] at g1 g3
  refine ⟨⟨A, _, g1, h2, ⟨h3.1, h3.2.1, h3.2.2.1, by show L.next + 1 = _; rw [h3.2.2.2]; rfl⟩, ?_⟩, g2, g3⟩
  show (fun a => if a = (nx : Int) then some ((⟨nx, 32, v⟩ : Vt), fun _ => false) else L.op a) = _
  funext a
  unfold opAt
  split
  · rfl
  · rw [h4]; unfold opAt; split <;> rfl
theorem Ld.acc {v : List Int} {t : Nat} (h : Ld V m c nx j s o x) (hv : v.length ≤ 30) (hm : 2 ≤ m) (hh : HandleR x 0 9 32 t v y outs) : Ld V (m - 2) (c + 1) nx j s o y ∧ outs = [oAcd t] := by
  obtain ⟨A, L, h1, h2, h3, h4⟩ := h
  obtain ⟨g1, g2⟩ := h1.acc (by decide) h2.2.1 (by omega) hv hm hh
  exact ⟨⟨_, L, g1, ⟨h2.1, Int.le_refl _, vl_put h2.2.2 hv⟩, h3, h4⟩, g2⟩
theorem Ld.cnt1 {v : Vt} (h : Ld V m c nx j s (some (v, fun _ => false)) x) (hv : v.slot = s) (hh : HandleR x 0 10 32 s [] y outs) : Ld V m (c + 1) nx j s (some (v, addK (fun _ => false) 0)) y ∧ outs = [] := by
  obtain ⟨A, L, h1, h2, h3, h4⟩ := h
  obtain ⟨g1, g2⟩ := h1.cnt1 (Or.inl rfl) h3.1 h3.2.1 h3.2.2.1 (v := v) (g := fun _ => false) (by rw [h4]; unfold opAt; rw [if_pos rfl]) (by decide) hh
  refine ⟨⟨A, _, g1, h2, h3, ?_⟩, g2⟩
  show (fun a => if a = v.slot then some (v, addK (fun _ => false) (0 : Int).toNat) else L.op a) = _
  funext a
  unfold opAt
  rw [hv, h4]
  unfold opAt
  split <;> rfl
theorem Ld.cnt2 {v : List Int} (h : Ld V m c nx j j (some (⟨j, 32, v⟩, addK (fun _ => false) 0)) x) (hv : v.length ≤ 30) (hV : V[j]? = some v) (hj : j ≤ 1000) (hm : 2 ≤ m) (hh : HandleR x 1 10 32 j [] y outs) :
    Ld V (m - 2) (c + 2) nx (j + 1) j none y ∧ outs = [oLrn 0 j v, oLrn 1 j v, oLrn 2 j v] := by
  obtain ⟨A, L, h1, h2, h3, h4⟩ := h
  obtain ⟨g1, g2⟩ := h1.cnt2 (s := (j : Int)) (Or.inr (Or.inl rfl)) h3.1 h3.2.1 h3.2.2.1 (v := ⟨j, 32, v⟩) (g := addK (fun _ => false) 0) (by rw [h4]; unfold opAt; rw [if_pos rfl]) (by decide) rfl (by omega) (KnV_none V (Int.le_refl _)) hv hm hh
  rw [KnV_put hV] at g1
  refine ⟨⟨A, _, g1, h2, h3, ?_⟩, g2⟩
  show (fun a => if a = (j : Int) then none else L.op a) = _
  funext a
  unfold opAt
  rw [h4]
  unfold opAt
  split <;> rfl
theorem Ld.cnt0 {t : Int} {b : Int} {sl : Int} {bs : List Int} (h : Ld V m c nx j s none x) (ht : t = 0 ∨ t = 1 ∨ t = 2) (hh : HandleR x t 10 b sl bs y outs) : y = x ∧ outs = [] := by
  obtain ⟨A, L, h1, h2, h3, h4⟩ := h
  exact h1.cnt0 ht (by rw [h4]; unfold opAt; split <;> rfl) hh
theorem Ld.lrn0 {t : Nat} {v : List Int} (h : Ld V m c nx j s o x) (ht : t < j) (hj : j ≤ V.length) (hh : HandleR x 0 12 0 t v y outs) : y = x ∧ outs = [] := by
  obtain ⟨A, L, h1, h2, h3, h4⟩ := h
  refine h1.lrn0 ?_ hh
  rw [KnV_some V ht, List.getElem?_eq_getElem (by omega)]
  rfl
theorem Ld.prom0 {t : Int} {low : Int} {bs : List Int} (h : Ld V m c nx j s o x) (ht : t = 0 ∨ t = 1 ∨ t = 2) (hh : HandleR x t 8 32 low bs y outs) : y = x ∧ outs = [] := by
  obtain ⟨A, L, h1, h2, h3, h4⟩ := h
  exact h1.prom0 ht h3.1 hh
/-- What is told to one that asks from slot a on. -/
def lrnO (k a : Nat) : List (List Int) → List Om
  | [] => []
  | v :: r => oLrn k a v :: lrnO k (a + 1) r
theorem catO_lrn (k : Nat) : ∀ (a : Nat) (l : List (List Int)), catO k a l = lrnO k a l
  | a, [] => rfl
  | a, v :: r => by
    show (⟨(k : Int), 12, 0, (a : Int), v⟩ : Om) :: catO k ((a : Int) + 1) r = oLrn k a v :: lrnO k (a + 1) r
    rw [show (a : Int) + 1 = ((a + 1 : Nat) : Int) by omega, catO_lrn k (a + 1) r]
    rfl
theorem Ld.catch {k a : Nat} (h : Ld V m c nx j s o x) (hk : k = 1 ∨ k = 2) (ha : a ≤ j) (hj : j ≤ V.length) (hh : HandleR x k 13 0 a [] y outs) : y = x ∧ outs = lrnO k a (((V.take j).drop a).take 8) := by
  obtain ⟨A, L, h1, h2, h3, h4⟩ := h
  obtain ⟨rfl, Ls, g1, g2, g3, g4⟩ := h1.catch (by rcases hk with rfl | rfl <;> simp) hh
  refine ⟨rfl, ?_⟩
  rw [g4, catO_lrn]
  have hkn : y.kn = KnV V j := h1.kn
  have e : Ls = ((V.take j).drop a).take 8 := by
    have hin : ∀ i v, Ls[i]? = some v → a + i < j ∧ V[a + i]? = some v := fun i v hv => by
      have := g1 i v hv
      rw [hkn, show ((a : Int) + (i : Int)) = ((a + i : Nat) : Int) by omega] at this
      by_cases hlt : a + i < j
      · rw [KnV_some V hlt] at this
        exact ⟨hlt, this⟩
      · rw [KnV_none V (by omega)] at this; cases this
    have hlen : Ls.length = min 8 (j - a) := by
      have l1 : Ls.length ≤ 8 := by
        rcases g2 with g2 | g2
        · omega
        · rw [g2]; simp
      have l2 : Ls.length ≤ j - a := by
        rcases Nat.eq_zero_or_pos Ls.length with h0 | h0
        · omega
        · have := (hin (Ls.length - 1) _ (List.getElem?_eq_getElem (by omega))).1
          omega
      rcases g3 with g3 | g3
      · omega
      · rw [hkn, show ((a : Int) + (Ls.length : Int)) = ((a + Ls.length : Nat) : Int) by omega] at g3
        by_cases hlt : a + Ls.length < j
        · rw [KnV_some V hlt, List.getElem?_eq_getElem (by omega)] at g3; cases g3
        · omega
    apply List.ext_getElem?
    intro i
    by_cases hi : i < Ls.length
    · rw [List.getElem?_take_of_lt (by omega), List.getElem?_drop, List.getElem?_take_of_lt (by omega), (hin i _ (List.getElem?_eq_getElem hi)).2, List.getElem?_eq_getElem hi]
    · rw [List.getElem?_eq_none (by omega), List.getElem?_eq_none (by rw [List.length_take, List.length_drop, List.length_take]; omega)]
  rw [e]
/-- Three nodes, and what is under way. -/
def St3 (P0 P1 P2 : Nd → Prop) (ms0 : List (Int × Om)) (xs : List Nd) (ms : List (Int × Om)) : Prop := ∃ x0 x1 x2, xs = [x0, x1, x2] ∧ P0 x0 ∧ P1 x1 ∧ P2 x2 ∧ ms = ms0
variable {P0 P1 P2 Q : Nd → Prop} {ms0 ms ms' : List (Int × Om)} {xs xs' : List Nd} {p : Int × Om} {out0 : List Om}
theorem sendO_all (s : Int) (l : List Om) (h : (ms.length + l.length) ≤ 400) : sendO s l ms = ms ++ l.map (fun o => (s, o)) := by
  unfold sendO
  rw [List.take_of_length_le (by omega)]
theorem St3.mono {R0 R1 R2 : Nd → Prop} (h : St3 P0 P1 P2 ms0 xs ms) (h0 : ∀ x, P0 x → R0 x) (h1 : ∀ x, P1 x → R1 x) (h2 : ∀ x, P2 x → R2 x) : St3 R0 R1 R2 ms0 xs ms := by
  obtain ⟨x0, x1, x2, rfl, g0, g1, g2, rfl⟩ := h
  exact ⟨x0, x1, x2, rfl, h0 _ g0, h1 _ g1, h2 _ g2, rfl⟩
theorem St3.del (h : St3 P0 P1 P2 (p :: ms0) xs ms) (hd : DelR xs ms 0 false xs' ms') (k : Nat) (hk : p.2.dst = k) (hk3 : k < 3) : ∃ x y outs, xs[k]? = some x ∧ HandleR x p.1 p.2.kind p.2.ballot p.2.slot p.2.body y outs ∧ xs' = xs.set k y ∧ ms' = sendO k outs ms0 := by
  obtain ⟨x0, x1, x2, rfl, g0, g1, g2, rfl⟩ := h
  rcases hd with ⟨hd, _⟩ | ⟨p', h1, h2⟩
  · cases hd
  · rw [Nat.zero_mod] at h1 h2
    cases h1
    rcases h2 with ⟨h2, _⟩ | ⟨j, x, y, outs, h3, h4, h5, rfl, rfl⟩
    · exact absurd ⟨by omega, by rw [hk]; show (k : Int) < 3; omega⟩ h2
    · have : j = k := by omega
      subst this
      exact ⟨x, y, outs, h4, h5, rfl, by rw [h3]; rfl⟩
theorem St3.del0 (h : St3 P0 P1 P2 (p :: ms0) xs ms) (hd : DelR xs ms 0 false xs' ms') (hf : ∀ z ∈ xs, NdFacts z) (hk : p.2.dst = 0) (hq : ∀ x y outs, P0 x → NdFacts x → HandleR x p.1 p.2.kind p.2.ballot p.2.slot p.2.body y outs → Q y ∧ outs = out0) (hl : ms0.length + out0.length ≤ 400) :
    St3 Q P1 P2 (ms0 ++ out0.map (fun o => ((0 : Int), o))) xs' ms' := by
  obtain ⟨x, y, outs, h1, h2, rfl, rfl⟩ := h.del hd 0 hk (by decide)
  obtain ⟨x0, x1, x2, rfl, g0, g1, g2, rfl⟩ := h
  cases h1
  obtain ⟨q1, rfl⟩ := hq _ _ _ g0 (hf _ (by simp)) h2
  exact ⟨y, x1, x2, rfl, q1, g1, g2, sendO_all _ _ hl⟩
theorem St3.del1 (h : St3 P0 P1 P2 (p :: ms0) xs ms) (hd : DelR xs ms 0 false xs' ms') (hf : ∀ z ∈ xs, NdFacts z) (hk : p.2.dst = 1) (hq : ∀ x y outs, P1 x → NdFacts x → HandleR x p.1 p.2.kind p.2.ballot p.2.slot p.2.body y outs → Q y ∧ outs = out0) (hl : ms0.length + out0.length ≤ 400) :
    St3 P0 Q P2 (ms0 ++ out0.map (fun o => ((1 : Int), o))) xs' ms' := by
  obtain ⟨x, y, outs, h1, h2, rfl, rfl⟩ := h.del hd 1 hk (by decide)
  obtain ⟨x0, x1, x2, rfl, g0, g1, g2, rfl⟩ := h
  cases h1
  obtain ⟨q1, rfl⟩ := hq _ _ _ g1 (hf _ (by simp)) h2
  exact ⟨x0, y, x2, rfl, g0, q1, g2, sendO_all _ _ hl⟩
theorem St3.del2 (h : St3 P0 P1 P2 (p :: ms0) xs ms) (hd : DelR xs ms 0 false xs' ms') (hf : ∀ z ∈ xs, NdFacts z) (hk : p.2.dst = 2) (hq : ∀ x y outs, P2 x → NdFacts x → HandleR x p.1 p.2.kind p.2.ballot p.2.slot p.2.body y outs → Q y ∧ outs = out0) (hl : ms0.length + out0.length ≤ 400) :
    St3 P0 P1 Q (ms0 ++ out0.map (fun o => ((2 : Int), o))) xs' ms' := by
  obtain ⟨x, y, outs, h1, h2, rfl, rfl⟩ := h.del hd 2 hk (by decide)
  obtain ⟨x0, x1, x2, rfl, g0, g1, g2, rfl⟩ := h
  cases h1
  obtain ⟨q1, rfl⟩ := hq _ _ _ g2 (hf _ (by simp)) h2
  exact ⟨x0, x1, y, rfl, g0, g1, q1, sendO_all _ _ hl⟩
theorem St3.tick0 (h : St3 P0 P1 P2 ms0 xs ms) (hf : ∀ z ∈ xs, NdFacts z) (hx : xs[0]? = some x) (ht : TickR x y outs) (hq : ∀ x y outs, P0 x → NdFacts x → TickR x y outs → Q y ∧ outs = out0) (hl : ms0.length + out0.length ≤ 400) : St3 Q P1 P2 (ms0 ++ out0.map (fun o => ((0 : Int), o))) (xs.set 0 y) (sendO 0 outs ms) := by
  obtain ⟨x0, x1, x2, rfl, g0, g1, g2, rfl⟩ := h
  cases hx
  obtain ⟨q1, rfl⟩ := hq _ _ _ g0 (hf _ (by simp)) ht
  exact ⟨y, x1, x2, rfl, q1, g1, g2, sendO_all _ _ hl⟩
theorem St3.tick1 (h : St3 P0 P1 P2 ms0 xs ms) (hf : ∀ z ∈ xs, NdFacts z) (hx : xs[1]? = some x) (ht : TickR x y outs) (hq : ∀ x y outs, P1 x → NdFacts x → TickR x y outs → Q y ∧ outs = out0) (hl : ms0.length + out0.length ≤ 400) : St3 P0 Q P2 (ms0 ++ out0.map (fun o => ((1 : Int), o))) (xs.set 1 y) (sendO 1 outs ms) := by
  obtain ⟨x0, x1, x2, rfl, g0, g1, g2, rfl⟩ := h
  cases hx
  obtain ⟨q1, rfl⟩ := hq _ _ _ g1 (hf _ (by simp)) ht
  exact ⟨x0, y, x2, rfl, g0, q1, g2, sendO_all _ _ hl⟩
theorem St3.tick2 (h : St3 P0 P1 P2 ms0 xs ms) (hf : ∀ z ∈ xs, NdFacts z) (hx : xs[2]? = some x) (ht : TickR x y outs) (hq : ∀ x y outs, P2 x → NdFacts x → TickR x y outs → Q y ∧ outs = out0) (hl : ms0.length + out0.length ≤ 400) : St3 P0 P1 Q (ms0 ++ out0.map (fun o => ((2 : Int), o))) (xs.set 2 y) (sendO 2 outs ms) := by
  obtain ⟨x0, x1, x2, rfl, g0, g1, g2, rfl⟩ := h
  cases hx
  obtain ⟨q1, rfl⟩ := hq _ _ _ g2 (hf _ (by simp)) ht
  exact ⟨x0, x1, y, rfl, g0, g1, q1, sendO_all _ _ hl⟩
end Go.Proofs.YtgmdedkingampaaGreat
