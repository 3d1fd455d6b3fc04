/-
  Three nodes: the calms (law 17), and values one by one.
-/
import Derived.Test.YtgmdedkingampaaGreatCatR
import Derived.Test.YtgmdedkingampaaGreatClO
set_option linter.unusedVariables false
set_option linter.unusedSimpArgs false
namespace Go.Proofs.YtgmdedkingampaaGreat
open Go.ChangeShapes Go.WideShapes Go.ChangeAt Go.RowKit Go.Maps
set_option maxRecDepth 1000000

def eL0 : LS := beginL (newLS 3) 32 0
def Zf (V : List (List Int)) (l : Int) : Nd → Prop := X3 0 400 0 emptyAS (newLS 3) l 0 (KnV V 0)
def Zb (V : List (List Int)) (m : Nat) (L : LS) : Nd → Prop := X3 0 m 0 awA L 2 32 (KnV V 0)
abbrev Fe (V : List (List Int)) (k m : Nat) (l : Int) : Nd → Prop := Fo V true k m 0 0 l
def elT (V : List (List Int)) : Nat → Nat → List Nd → List (Int × Om) → Prop
  | 0, 0 => St3 (Zf V 2) (Fe V 1 400 4) (Fe V 2 400 6) []
  | 0, 1 => St3 (Zf V 1) (Fe V 1 400 4) (Fe V 2 400 6) []
  | 0, 2 => St3 (Zf V 1) (Fe V 1 400 3) (Fe V 2 400 6) []
  | 0, 3 => St3 (Zf V 1) (Fe V 1 400 3) (Fe V 2 400 5) []
  | 1, 0 => St3 (Zf V 1) (Fe V 1 400 3) (Fe V 2 400 5) []
  | 1, 1 => St3 (Zb V 399 eL0) (Fe V 1 400 3) (Fe V 2 400 5) [(0, oPrep 0), (0, oPrep 1), (0, oPrep 2)]
  | 1, 2 => St3 (Zb V 399 eL0) (Fe V 1 400 2) (Fe V 2 400 5) [(0, oPrep 0), (0, oPrep 1), (0, oPrep 2)]
  | 1, 3 => St3 (Zb V 399 eL0) (Fe V 1 400 2) (Fe V 2 400 4) [(0, oPrep 0), (0, oPrep 1), (0, oPrep 2)]
  | _ + 2, i => ldT V 0 0 i
  | _, _ => fun _ _ => False
def elD (V : List (List Int)) : Nat → Nat → List Nd → List (Int × Om) → Prop
  | 0, 0 => St3 (Zf V 1) (Fe V 1 400 3) (Fe V 2 400 5) []
  | 1, 0 => St3 (Zb V 399 eL0) (Fe V 1 400 2) (Fe V 2 400 4) [(0, oPrep 0), (0, oPrep 1), (0, oPrep 2)]
  | 1, 1 => St3 (Zb V 398 eL0) (Fe V 1 400 2) (Fe V 2 400 4) [(0, oPrep 1), (0, oPrep 2), (0, oProm)]
  | 1, 2 => St3 (Zb V 398 eL0) (Fe V 1 399 4) (Fe V 2 400 4) [(0, oPrep 2), (0, oProm), (1, oProm)]
  | 1, 3 => St3 (Zb V 398 eL0) (Fe V 1 399 4) (Fe V 2 399 6) [(0, oProm), (1, oProm), (2, oProm)]
  | 1, 4 => St3 (Zb V 398 (promL eL0 0 0)) (Fe V 1 399 4) (Fe V 2 399 6) [(1, oProm), (2, oProm)]
  | 1, 5 => St3 (Ld V 398 0 0 0 0 none) (Fe V 1 399 4) (Fe V 2 399 6) [(2, oProm)]
  | 1, 6 => St3 (Ld V 398 0 0 0 0 none) (Fe V 1 399 4) (Fe V 2 399 6) []
  | _ + 2, k => ldD V 0 0 k
  | _, _ => fun _ _ => False
def elJ (V : List (List Int)) : Nat → List Nd → List (Int × Om) → Prop
  | 0 => St3 (Zf V 2) (Fe V 1 400 4) (Fe V 2 400 6) []
  | 1 => St3 (Zf V 1) (Fe V 1 400 3) (Fe V 2 400 5) []
  | _ + 2 => Ph V 0 4 6 0 []
variable {V : List (List Int)} {n j k i r : Nat} {xs xs' : List Nd} {ms ms' : List (Int × Om)} {x y : Nd} {outs : List Om}
theorem vs_zero (V : List (List Int)) : Vs V 0 := ⟨Nat.zero_le _, by decide, fun v hv => by simp at hv⟩
theorem Zf.ok {l : Int} (h : Zf V l x) (hl : 1 ≤ l ∧ l ≤ 1000) : NdOk x 100 ∧ TkOk x :=
  X3.ok h (by decide) (by decide) (by decide) (fun a v hv => by cases hv) (fun s v g hv => by cases hv) hl (by unfold U1; omega)
theorem Zb.ok {m : Nat} {L : LS} (h : Zb V m L x) (hm : 3 ≤ m) (ho : ∀ s, L.op s = none) : NdOk x 100 ∧ TkOk x :=
  X3.ok h (by decide) (by decide) hm (fun a v hv => by cases hv) (fun s v g hv => by rw [ho] at hv; cases hv) (by decide) (by unfold U1; omega)
theorem mail_ok {l : List (Int × Om)} (h : ∀ p ∈ l, (∃ k, p.2 = oPrep k) ∨ p.2 = oProm) : ∀ p ∈ l, OmOk 100 p.2 := fun p hp => by
  rcases h p hp with ⟨k, e⟩ | e
  · rw [e]; exact oPrep_ok
  · rw [e]; exact oProm_ok
theorem elT_ok {i : Nat} (h : elT V r i xs ms) : OkSt 100 3 xs ms := by
  have e1 : ∀ {m l x}, Fe V 1 m l x → 3 ≤ m → 1 ≤ l → NdOk x 100 ∧ TkOk x := fun hx hm hl => Fo.ok hx (by decide) (by decide) hm hl
  have e2 : ∀ {m l x}, Fe V 2 m l x → 3 ≤ m → 1 ≤ l → NdOk x 100 ∧ TkOk x := fun hx hm hl => Fo.ok hx (by decide) (by decide) hm hl
  match r, i, h with
  | 0, 0, h | 0, 1, h | 0, 2, h | 0, 3, h | 1, 0, h => exact St3.ok h (fun x hx => Zf.ok hx (by decide)) (fun x hx => e1 hx (by decide) (by decide)) (fun x hx => e2 hx (by decide) (by decide)) (by decide) (fun p hp => by cases hp)
  | 1, 1, h | 1, 2, h | 1, 3, h =>
    exact St3.ok h (fun x hx => Zb.ok hx (by decide) (fun _ => rfl)) (fun x hx => e1 hx (by decide) (by decide)) (fun x hx => e2 hx (by decide) (by decide)) (by decide) (mail_ok (fun p hp => by
      simp at hp
      rcases hp with rfl | rfl | rfl <;> exact Or.inl ⟨_, rfl⟩))
  | r + 2, i, h => exact ldT_ok (vs_zero V) (Nat.le_refl _) h
theorem elD_ok {k : Nat} (h : elD V r k xs ms) : OkSt 100 3 xs ms := by
  have e1 : ∀ {m l x}, Fe V 1 m l x → 3 ≤ m → 1 ≤ l → NdOk x 100 ∧ TkOk x := fun hx hm hl => Fo.ok hx (by decide) (by decide) hm hl
  have e2 : ∀ {m l x}, Fe V 2 m l x → 3 ≤ m → 1 ≤ l → NdOk x 100 ∧ TkOk x := fun hx hm hl => Fo.ok hx (by decide) (by decide) hm hl
  match r, k, h with
  | 0, 0, h => exact St3.ok h (fun x hx => Zf.ok hx (by decide)) (fun x hx => e1 hx (by decide) (by decide)) (fun x hx => e2 hx (by decide) (by decide)) (by decide) (fun p hp => by cases hp)
  | 1, 0, h | 1, 1, h | 1, 2, h | 1, 3, h =>
    exact St3.ok h (fun x hx => Zb.ok hx (by decide) (fun _ => rfl)) (fun x hx => e1 hx (by decide) (by decide)) (fun x hx => e2 hx (by decide) (by decide)) (by decide) (mail_ok (fun p hp => by
      simp at hp
      rcases hp with rfl | rfl | rfl <;> first | exact Or.inl ⟨_, rfl⟩ | exact Or.inr rfl))
  | 1, 4, h =>
    exact St3.ok h (fun x hx => Zb.ok hx (by decide) (fun _ => rfl)) (fun x hx => e1 hx (by decide) (by decide)) (fun x hx => e2 hx (by decide) (by decide)) (by decide) (mail_ok (fun p hp => by
      simp at hp
      rcases hp with rfl | rfl <;> exact Or.inr rfl))
  | 1, 5, h =>
    exact St3.ok h (fun x hx => Ld.ok hx (by decide) (by decide) (fun v g e => by cases e)) (fun x hx => e1 hx (by decide) (by decide)) (fun x hx => e2 hx (by decide) (by decide)) (by decide) (mail_ok (fun p hp => by
      simp at hp
      subst hp
      exact Or.inr rfl))
  | 1, 6, h => exact St3.ok h (fun x hx => Ld.ok hx (by decide) (by decide) (fun v g e => by cases e)) (fun x hx => e1 hx (by decide) (by decide)) (fun x hx => e2 hx (by decide) (by decide)) (by decide) (fun p hp => by cases hp)
  | r + 2, k, h => exact ldD_ok (vs_zero V) (Nat.le_refl _) h
theorem St3.no3 {P0 P1 P2 : Nd → Prop} {ms0 : List (Int × Om)} (h : St3 P0 P1 P2 ms0 xs ms) (hx : xs[3]? = some x) : False := by
  obtain ⟨x0, x1, x2, rfl, _⟩ := h
  cases hx
theorem elT_step (h : elT V r i xs ms) (hf : ∀ z ∈ xs, NdFacts z) (hx : xs[i]? = some x) (ht : TickR x y outs) : elT V r (i + 1) (xs.set i y) (sendO i outs ms) := by
  match r, i, h, hx with
  | 0, 0, h, hx => exact St3.tick0 h hf hx ht (out0 := []) (fun x y outs hx hf ht => X3.wait hx (by decide) (by decide) ht) (by decide)
  | 0, 1, h, hx => exact St3.tick1 h hf hx ht (out0 := []) (fun x y outs hx hf ht => Fo.tick hx (by decide) ht) (by decide)
  | 0, 2, h, hx => exact St3.tick2 h hf hx ht (out0 := []) (fun x y outs hx hf ht => Fo.tick hx (by decide) ht) (by decide)
  | 0, 3, h, hx => exact (St3.no3 h hx).elim
  | 1, 0, h, hx =>
    exact St3.tick0 h hf hx ht (out0 := [oPrep 0, oPrep 1, oPrep 2]) (fun x y outs hx hf ht => by
      have hn := X3.nx hx (Nat.zero_le _) hf
      exact X3.stand hx (by decide) rfl rfl (by decide) ht hn) (by decide)
  | 1, 1, h, hx => exact St3.tick1 h hf hx ht (out0 := []) (fun x y outs hx hf ht => Fo.tick hx (by decide) ht) (by decide)
  | 1, 2, h, hx => exact St3.tick2 h hf hx ht (out0 := []) (fun x y outs hx hf ht => Fo.tick hx (by decide) ht) (by decide)
  | 1, 3, h, hx => exact (St3.no3 h hx).elim
  | r + 2, i, h, hx => exact ldT_step (vs_zero V) (Nat.le_refl _) h hf hx ht
theorem elD_step (h : elD V r k xs ms) (hm : ms ≠ []) (hf : ∀ z ∈ xs, NdFacts z) (hd : DelR xs ms 0 false xs' ms') : elD V r (k + 1) xs' ms' := by
  match r, k, h with
  | 0, 0, h =>
    obtain ⟨x0, x1, x2, rfl, _, _, _, e⟩ := h
    exact absurd e hm
  | 1, 0, h => exact St3.del0 h hd hf rfl (out0 := [oProm]) (fun x y outs hx hf hh => X3.prep hx (Or.inl rfl) (by decide) (by decide) (fun _ => rfl) (by decide) hh) (by decide)
  | 1, 1, h => exact St3.del1 h hd hf rfl (out0 := [oProm]) (fun x y outs hx hf hh => Fo.prep hx (by decide) (by decide) hh) (by decide)
  | 1, 2, h => exact St3.del2 h hd hf rfl (out0 := [oProm]) (fun x y outs hx hf hh => Fo.prep hx (by decide) (by decide) hh) (by decide)
  | 1, 3, h => exact St3.del0 h hd hf rfl (out0 := []) (fun x y outs hx hf hh => X3.prom1 hx (Or.inl rfl) rfl rfl rfl rfl (by decide) hh) (by decide)
  | 1, 4, h =>
    exact St3.del0 h hd hf rfl (out0 := []) (fun x y outs hx hf hh => by
      obtain ⟨L', h1, h2, h3, h4, h5, h6, h7⟩ := X3.prom2 hx (Or.inr (Or.inl rfl)) rfl rfl rfl rfl (by decide) (fun _ => rfl) (fun _ => rfl) rfl hh
      exact ⟨⟨awA, L', h1, ⟨rfl, by decide, fun a v hv => by cases hv⟩, ⟨h2, h3, h4, h6⟩, by funext a; rw [h5]; unfold opAt; split <;> rfl⟩, h7⟩) (by decide)
  | 1, 5, h =>
    exact St3.del0 h hd hf rfl (out0 := []) (fun x y outs hx hf hh => by
      obtain ⟨rfl, h2⟩ := Ld.prom0 hx (Or.inr (Or.inr rfl)) hh
      exact ⟨hx, h2⟩) (by decide)
  | 1, 6, h =>
    obtain ⟨x0, x1, x2, rfl, _, _, _, e⟩ := h
    exact absurd e hm
  | r + 2, k, h => exact ldD_step (vs_zero V) (Nat.le_refl _) h hm hf hd
theorem St3.noEnd {P0 P1 P2 : Nd → Prop} {p : Int × Om} {l : List (Int × Om)} (h : St3 P0 P1 P2 (p :: l) xs ms) (hk : k < 7) (he : k = 400 ∨ ms = []) : False := by
  obtain ⟨x0, x1, x2, _, _, _, _, e⟩ := h
  rcases he with he | he
  · omega
  · rw [e] at he; cases he
theorem elD_end (h : elD V r k xs ms) (he : k = 400 ∨ ms = []) : elJ V (r + 1) xs ms := by
  match r, k, h, he with
  | 0, 0, h, _ => exact h
  | 1, 0, h, he => exact (St3.noEnd h (by decide) he).elim
  | 1, 1, h, he => exact (St3.noEnd h (by decide) he).elim
  | 1, 2, h, he => exact (St3.noEnd h (by decide) he).elim
  | 1, 3, h, he => exact (St3.noEnd h (by decide) he).elim
  | 1, 4, h, he => exact (St3.noEnd h (by decide) he).elim
  | 1, 5, h, he => exact (St3.noEnd h (by decide) he).elim
  | 1, 6, h, _ => exact St3.mono h (fun x hx => Ld.mono hx (by decide) (Nat.le_refl _)) (fun x hx => (Fo.mono hx (by decide) (Nat.le_refl _) (Int.le_refl _)).bare) (fun x hx => (Fo.mono hx (by decide) (Nat.le_refl _) (Int.le_refl _)).bare)
  | r + 2, k, h, he => exact ldD_end (vs_zero V) (Nat.le_refl _) h he
theorem newX3 {k : Nat} (hk : k < 3) : X3 k 400 0 emptyAS (newLS 3) (2 * (k + 1)) 0 (KnV V 0) (newNd k (psN 3) 400 400 2) := by
  have hx : idxI (psN 3) (k : Int) = k := by
    rw [psN3]
    exact idx3 (by omega)
  have ht : (newNd k (psN 3) 400 400 2).t = 2 * ((k : Int) + 1) := by show 2 * (idxI (psN 3) (k : Int) + 1) = _; rw [hx]
  have hl : (newNd k (psN 3) 400 400 2).lf = 2 * ((k : Int) + 1) := by show 2 * (idxI (psN 3) (k : Int) + 1) = _; rw [hx]
  exact ⟨⟨rfl, rfl, rfl, rfl, rfl, by show 0 + 400 ≤ (List.replicate 400 _).length; rw [List.length_replicate]; omega, by show 0 + 400 ≤ 400; omega, by show 0 + 400 ≤ 60000; omega⟩, rfl, rfl, ht, rfl, rfl, hl, rfl, (KnV_zero V).symm, Nat.le_refl _, Nat.le_refl _, Nat.zero_le _⟩
theorem newFe {k : Nat} (hk : k < 3) : Fe V k 400 (2 * (k + 1)) (newNd k (psN 3) 400 400 2) :=
  ⟨_, _, _, _, newX3 hk, ⟨rfl, by decide, fun a v hv => by cases hv⟩, fun _ _ => rfl, ⟨rfl, fun _ => rfl⟩, by omega, by decide⟩
theorem newEl : elJ V 0 (newXs 3 3) [] := ⟨_, _, _, rfl, newX3 (by decide), newFe (by decide), newFe (by decide), rfl⟩
section
variable {W w : World} {os : List Ob} {c : Nat} {dv nv : Value} {qs : List NdA}
theorem cat_calm4 (V : List (List Int)) (h : Clu W w os c dv nv qs (newXs 3 3) []) :
    Calls Tryz.prog 10 #[.pointer (some ⟨c, 0, none⟩), .int .i64 4] w fun e w' => e = .returned (.tuple #[]) ∧ ∃ xs ms, Clu W w' os c dv nv qs xs ms ∧ Ph V 0 4 6 0 [] xs ms := by
  have h9 := cl_calm (Mb := 100) (n := 3) 4 (by omega) (by omega) (elJ V) (elT V) (elD V)
    (fun r xs ms hr hj => by
      match r, hj with
      | 0, hj => exact hj
      | 1, hj => exact hj
      | r + 2, hj => exact hj)
    (fun r i xs ms x y outs hr h hx ht hf => elT_step h hf hx ht)
    (fun r xs ms hr h => by
      match r, h with
      | 0, h => exact h
      | 1, h => exact h
      | r + 2, h => exact h)
    (fun r k xs ms xs' ms' hr hk hm h hd hf => elD_step h hm hf hd)
    (fun r k xs ms hr h he => elD_end h he)
    (fun r i xs ms h => elT_ok h) (fun r i xs ms h => elD_ok h) h (by unfold newXs; rfl) newEl
  exact h9
theorem cat_lead {rounds : Nat} (hr : rounds ≤ 1000) (hv : Vs V n) (hj : j ≤ n) (h : Clu W w os c dv nv qs xs ms) (h0 : Ph V n 4 6 j [] xs ms) :
    Calls Tryz.prog 10 #[.pointer (some ⟨c, 0, none⟩), .int .i64 rounds] w fun e w' => e = .returned (.tuple #[]) ∧ ∃ xs ms, Clu W w' os c dv nv qs xs ms ∧ Ph V n 4 6 (min n (j + 8 * rounds)) [] xs ms := by
  have hx0 : xs.length = 3 := by obtain ⟨x0, x1, x2, rfl, _⟩ := h0; rfl
  refine cl_calm (Mb := 100) (n := 3) rounds hr (by omega) (fun r => Ph V n 4 6 (min n (j + 8 * r)) []) (fun r => ldT V n (min n (j + 8 * r))) (fun r => ldD V n (min n (j + 8 * r)))
    (fun r xs ms hr hj => hj)
    (fun r i xs ms x y outs hr h hx ht hf => ldT_step hv (by omega) h hf hx ht)
    (fun r xs ms hr h => h)
    (fun r k xs ms xs' ms' hr hk hm h hd hf => ldD_step hv (by omega) h hm hf hd)
    (fun r k xs ms hr h he => ?_)
    (fun r i xs ms h => ldT_ok hv (by omega) h) (fun r i xs ms h => ldD_ok hv (by omega) h) h hx0 ?_
  · have h9 := ldD_end hv (by omega) h he
    rw [show min n (min n (j + 8 * r) + 8) = min n (j + 8 * (r + 1)) by omega] at h9
    exact h9
  · show Ph V n 4 6 (min n (j + 8 * 0)) [] xs ms
    rw [show min n (j + 8 * 0) = j by omega]
    exact h0
end
/-- The third node: deaf, or like the second one. -/
def Th (V : List (List Int)) (deaf : Bool) (m c j : Nat) : Nd → Prop := if deaf = true then Fo V false 2 380 0 0 6 else Fo V false 2 m c j 6
abbrev Vo (j : Nat) (v : List Int) : Vt := ⟨j, 32, v⟩
def vJ (V : List (List Int)) (deaf : Bool) (j : Nat) : List Nd → List (Int × Om) → Prop := St3 (Ld V (380 - 4 * j) (5 * j) j j 0 none) (Fo V false 1 (380 - 4 * j) (2 * j) j 4) (Th V deaf (380 - 4 * j) (2 * j) j) []
def acs (j : Nat) (v : List Int) : List (Int × Om) := [(0, oAcc 0 j v), (0, oAcc 1 j v), (0, oAcc 2 j v)]
def vS (V : List (List Int)) (j : Nat) (v : List Int) : Bool → Nat → List Nd → List (Int × Om) → Prop
  | d, 0 => St3 (Ld V (380 - 4 * j) (5 * j + 1) (j + 1) j j (some (Vo j v, fun _ => false))) (Fo V false 1 (380 - 4 * j) (2 * j) j 4) (Th V d (380 - 4 * j) (2 * j) j) (acs j v)
  | d, 1 => St3 (Ld V (380 - 4 * j - 2) (5 * j + 2) (j + 1) j j (some (Vo j v, fun _ => false))) (Fo V false 1 (380 - 4 * j) (2 * j) j 4) (Th V d (380 - 4 * j) (2 * j) j) [(0, oAcc 1 j v), (0, oAcc 2 j v), (0, oAcd j)]
  | d, 2 => St3 (Ld V (380 - 4 * j - 2) (5 * j + 2) (j + 1) j j (some (Vo j v, fun _ => false))) (Fo V false 1 (380 - 4 * j - 2) (2 * j + 1) j 4) (Th V d (380 - 4 * j) (2 * j) j) [(0, oAcc 2 j v), (0, oAcd j), (1, oAcd j)]
  | false, 3 => St3 (Ld V (380 - 4 * j - 2) (5 * j + 2) (j + 1) j j (some (Vo j v, fun _ => false))) (Fo V false 1 (380 - 4 * j - 2) (2 * j + 1) j 4) (Th V false (380 - 4 * j - 2) (2 * j + 1) j) [(0, oAcd j), (1, oAcd j), (2, oAcd j)]
  | false, 4 => St3 (Ld V (380 - 4 * j - 2) (5 * j + 3) (j + 1) j j (some (Vo j v, addK (fun _ => false) 0))) (Fo V false 1 (380 - 4 * j - 2) (2 * j + 1) j 4) (Th V false (380 - 4 * j - 2) (2 * j + 1) j) [(1, oAcd j), (2, oAcd j)]
  | false, 5 => St3 (Ld V (380 - 4 * j - 4) (5 * j + 5) (j + 1) (j + 1) j none) (Fo V false 1 (380 - 4 * j - 2) (2 * j + 1) j 4) (Th V false (380 - 4 * j - 2) (2 * j + 1) j) [(2, oAcd j), (0, oLrn 0 j v), (0, oLrn 1 j v), (0, oLrn 2 j v)]
  | false, 6 => St3 (Ld V (380 - 4 * j - 4) (5 * j + 5) (j + 1) (j + 1) j none) (Fo V false 1 (380 - 4 * j - 2) (2 * j + 1) j 4) (Th V false (380 - 4 * j - 2) (2 * j + 1) j) [(0, oLrn 0 j v), (0, oLrn 1 j v), (0, oLrn 2 j v)]
  | false, 7 => St3 (Ld V (380 - 4 * j - 4) (5 * j + 5) (j + 1) (j + 1) j none) (Fo V false 1 (380 - 4 * j - 2) (2 * j + 1) j 4) (Th V false (380 - 4 * j - 2) (2 * j + 1) j) [(0, oLrn 1 j v), (0, oLrn 2 j v)]
  | false, 8 => St3 (Ld V (380 - 4 * j - 4) (5 * j + 5) (j + 1) (j + 1) j none) (Fo V false 1 (380 - 4 * j - 4) (2 * j + 2) (j + 1) 4) (Th V false (380 - 4 * j - 2) (2 * j + 1) j) [(0, oLrn 2 j v)]
  | false, 9 => St3 (Ld V (380 - 4 * j - 4) (5 * j + 5) (j + 1) (j + 1) j none) (Fo V false 1 (380 - 4 * j - 4) (2 * j + 2) (j + 1) 4) (Th V false (380 - 4 * j - 4) (2 * j + 2) (j + 1)) []
  | true, 3 => St3 (Ld V (380 - 4 * j - 2) (5 * j + 2) (j + 1) j j (some (Vo j v, fun _ => false))) (Fo V false 1 (380 - 4 * j - 2) (2 * j + 1) j 4) (Th V true 0 0 0) [(0, oAcd j), (1, oAcd j)]
  | true, 4 => St3 (Ld V (380 - 4 * j - 2) (5 * j + 3) (j + 1) j j (some (Vo j v, addK (fun _ => false) 0))) (Fo V false 1 (380 - 4 * j - 2) (2 * j + 1) j 4) (Th V true 0 0 0) [(1, oAcd j)]
  | true, 5 => St3 (Ld V (380 - 4 * j - 4) (5 * j + 5) (j + 1) (j + 1) j none) (Fo V false 1 (380 - 4 * j - 2) (2 * j + 1) j 4) (Th V true 0 0 0) [(0, oLrn 0 j v), (0, oLrn 1 j v), (0, oLrn 2 j v)]
  | true, 6 => St3 (Ld V (380 - 4 * j - 4) (5 * j + 5) (j + 1) (j + 1) j none) (Fo V false 1 (380 - 4 * j - 2) (2 * j + 1) j 4) (Th V true 0 0 0) [(0, oLrn 1 j v), (0, oLrn 2 j v)]
  | true, 7 => St3 (Ld V (380 - 4 * j - 4) (5 * j + 5) (j + 1) (j + 1) j none) (Fo V false 1 (380 - 4 * j - 4) (2 * j + 2) (j + 1) 4) (Th V true 0 0 0) [(0, oLrn 2 j v)]
  | true, 8 => St3 (Ld V (380 - 4 * j - 4) (5 * j + 5) (j + 1) (j + 1) j none) (Fo V false 1 (380 - 4 * j - 4) (2 * j + 2) (j + 1) 4) (Th V true 0 0 0) []
  | _, _ => fun _ _ => False
structure Vj (V : List (List Int)) (j : Nat) (v : List Int) : Prop where
  at_ : V[j]? = some v
  few : j < 20
  ok : U8 v ∧ v.length ≤ 30
variable {v : List Int} {d : Bool}
theorem vS_ok (hv : Vj V j v) (h : vS V j v d i xs ms) : OkSt 100 3 xs ms ∧ i ≤ 9 := by
  have hf := hv.few
  have eL : ∀ {m c nx jj s o x}, Ld V m c nx jj s o x → (∀ w g, o = some (w, g) → w.val.length ≤ 30) → c ≤ 800 → 3 ≤ m → NdOk x 100 ∧ TkOk x := fun hx ho hc hm => hx.ok hc hm ho
  have eF : ∀ {m c jj x}, Fo V false 1 m c jj 4 x → c ≤ 800 → 3 ≤ m → NdOk x 100 ∧ TkOk x := fun hx hc hm => hx.ok (by decide) hc hm (by decide)
  have eT : ∀ {d m c jj x}, Th V d m c jj x → (d = false → c ≤ 800 ∧ 3 ≤ m) → NdOk x 100 ∧ TkOk x := fun {d m c jj x} hx hcm => by
    unfold Th at hx
    cases d with
    | true => exact Fo.ok hx (by decide) (by decide) (by decide) (by decide)
    | false => exact Fo.ok hx (by decide) (hcm rfl).1 (hcm rfl).2 (by decide)
  have oo : ∀ (g : Nat → Bool) w g', some (Vo j v, g) = some (w, g') → w.val.length ≤ 30 := fun g w g' e => by cases e; exact hv.ok.2
  have on : ∀ (w : Vt) (g' : Nat → Bool), (none : Option (Vt × (Nat → Bool))) = some (w, g') → w.val.length ≤ 30 := fun w g' e => by cases e
  have om : ∀ {l : List (Int × Om)}, (∀ p ∈ l, (∃ k, p.2 = oAcc k j v) ∨ p.2 = oAcd j ∨ ∃ k, p.2 = oLrn k j v) → ∀ p ∈ l, OmOk 100 p.2 := fun h p hp => by
    rcases h p hp with ⟨k, e⟩ | e | ⟨k, e⟩ <;> rw [e]
    · exact oAcc_ok (by omega) hv.ok
    · exact oAcd_ok (by omega)
    · exact oLrn_ok (by omega) hv.ok
  match d, i, h with
  | d, 0, h => exact ⟨St3.ok h (fun x hx => eL hx (oo _) (by omega) (by omega)) (fun x hx => eF hx (by omega) (by omega)) (fun x hx => eT hx (fun _ => by omega)) (by show 3 ≤ 400; decide) (om (fun p hp => by simp [acs] at hp; rcases hp with rfl | rfl | rfl <;> first | exact Or.inl ⟨_, rfl⟩ | exact Or.inr (Or.inl rfl) | exact Or.inr (Or.inr ⟨_, rfl⟩))), by decide⟩
  | d, 1, h => exact ⟨St3.ok h (fun x hx => eL hx (oo _) (by omega) (by omega)) (fun x hx => eF hx (by omega) (by omega)) (fun x hx => eT hx (fun _ => by omega)) (by show 3 ≤ 400; decide) (om (fun p hp => by simp at hp; rcases hp with rfl | rfl | rfl <;> first | exact Or.inl ⟨_, rfl⟩ | exact Or.inr (Or.inl rfl) | exact Or.inr (Or.inr ⟨_, rfl⟩))), by decide⟩
  | d, 2, h => exact ⟨St3.ok h (fun x hx => eL hx (oo _) (by omega) (by omega)) (fun x hx => eF hx (by omega) (by omega)) (fun x hx => eT hx (fun _ => by omega)) (by show 3 ≤ 400; decide) (om (fun p hp => by simp at hp; rcases hp with rfl | rfl | rfl <;> first | exact Or.inl ⟨_, rfl⟩ | exact Or.inr (Or.inl rfl) | exact Or.inr (Or.inr ⟨_, rfl⟩))), by decide⟩
  | false, 3, h => exact ⟨St3.ok h (fun x hx => eL hx (oo _) (by omega) (by omega)) (fun x hx => eF hx (by omega) (by omega)) (fun x hx => eT hx (fun _ => by omega)) (by show 3 ≤ 400; decide) (om (fun p hp => by simp at hp; rcases hp with rfl | rfl | rfl <;> first | exact Or.inl ⟨_, rfl⟩ | exact Or.inr (Or.inl rfl) | exact Or.inr (Or.inr ⟨_, rfl⟩))), by decide⟩
  | false, 4, h => exact ⟨St3.ok h (fun x hx => eL hx (oo _) (by omega) (by omega)) (fun x hx => eF hx (by omega) (by omega)) (fun x hx => eT hx (fun _ => by omega)) (by show 2 ≤ 400; decide) (om (fun p hp => by simp at hp; rcases hp with rfl | rfl <;> first | exact Or.inl ⟨_, rfl⟩ | exact Or.inr (Or.inl rfl) | exact Or.inr (Or.inr ⟨_, rfl⟩))), by decide⟩
  | false, 5, h => exact ⟨St3.ok h (fun x hx => eL hx on (by omega) (by omega)) (fun x hx => eF hx (by omega) (by omega)) (fun x hx => eT hx (fun _ => by omega)) (by show 4 ≤ 400; decide) (om (fun p hp => by simp at hp; rcases hp with rfl | rfl | rfl | rfl <;> first | exact Or.inl ⟨_, rfl⟩ | exact Or.inr (Or.inl rfl) | exact Or.inr (Or.inr ⟨_, rfl⟩))), by decide⟩
  | false, 6, h => exact ⟨St3.ok h (fun x hx => eL hx on (by omega) (by omega)) (fun x hx => eF hx (by omega) (by omega)) (fun x hx => eT hx (fun _ => by omega)) (by show 3 ≤ 400; decide) (om (fun p hp => by simp at hp; rcases hp with rfl | rfl | rfl <;> first | exact Or.inl ⟨_, rfl⟩ | exact Or.inr (Or.inl rfl) | exact Or.inr (Or.inr ⟨_, rfl⟩))), by decide⟩
  | false, 7, h => exact ⟨St3.ok h (fun x hx => eL hx on (by omega) (by omega)) (fun x hx => eF hx (by omega) (by omega)) (fun x hx => eT hx (fun _ => by omega)) (by show 2 ≤ 400; decide) (om (fun p hp => by simp at hp; rcases hp with rfl | rfl <;> first | exact Or.inl ⟨_, rfl⟩ | exact Or.inr (Or.inl rfl) | exact Or.inr (Or.inr ⟨_, rfl⟩))), by decide⟩
  | false, 8, h => exact ⟨St3.ok h (fun x hx => eL hx on (by omega) (by omega)) (fun x hx => eF hx (by omega) (by omega)) (fun x hx => eT hx (fun _ => by omega)) (by show 1 ≤ 400; decide) (om (fun p hp => by simp at hp; subst hp; first | exact Or.inl ⟨_, rfl⟩ | exact Or.inr (Or.inl rfl) | exact Or.inr (Or.inr ⟨_, rfl⟩))), by decide⟩
  | false, 9, h => exact ⟨St3.ok h (fun x hx => eL hx on (by omega) (by omega)) (fun x hx => eF hx (by omega) (by omega)) (fun x hx => eT hx (fun _ => by omega)) (by show 0 ≤ 400; decide) (fun p hp => by cases hp), by decide⟩
  | true, 3, h => exact ⟨St3.ok h (fun x hx => eL hx (oo _) (by omega) (by omega)) (fun x hx => eF hx (by omega) (by omega)) (fun x hx => eT hx (fun e => by cases e)) (by show 2 ≤ 400; decide) (om (fun p hp => by simp at hp; rcases hp with rfl | rfl <;> first | exact Or.inl ⟨_, rfl⟩ | exact Or.inr (Or.inl rfl) | exact Or.inr (Or.inr ⟨_, rfl⟩))), by decide⟩
  | true, 4, h => exact ⟨St3.ok h (fun x hx => eL hx (oo _) (by omega) (by omega)) (fun x hx => eF hx (by omega) (by omega)) (fun x hx => eT hx (fun e => by cases e)) (by show 1 ≤ 400; decide) (om (fun p hp => by simp at hp; subst hp; first | exact Or.inl ⟨_, rfl⟩ | exact Or.inr (Or.inl rfl) | exact Or.inr (Or.inr ⟨_, rfl⟩))), by decide⟩
  | true, 5, h => exact ⟨St3.ok h (fun x hx => eL hx on (by omega) (by omega)) (fun x hx => eF hx (by omega) (by omega)) (fun x hx => eT hx (fun e => by cases e)) (by show 3 ≤ 400; decide) (om (fun p hp => by simp at hp; rcases hp with rfl | rfl | rfl <;> first | exact Or.inl ⟨_, rfl⟩ | exact Or.inr (Or.inl rfl) | exact Or.inr (Or.inr ⟨_, rfl⟩))), by decide⟩
  | true, 6, h => exact ⟨St3.ok h (fun x hx => eL hx on (by omega) (by omega)) (fun x hx => eF hx (by omega) (by omega)) (fun x hx => eT hx (fun e => by cases e)) (by show 2 ≤ 400; decide) (om (fun p hp => by simp at hp; rcases hp with rfl | rfl <;> first | exact Or.inl ⟨_, rfl⟩ | exact Or.inr (Or.inl rfl) | exact Or.inr (Or.inr ⟨_, rfl⟩))), by decide⟩
  | true, 7, h => exact ⟨St3.ok h (fun x hx => eL hx on (by omega) (by omega)) (fun x hx => eF hx (by omega) (by omega)) (fun x hx => eT hx (fun e => by cases e)) (by show 1 ≤ 400; decide) (om (fun p hp => by simp at hp; subst hp; first | exact Or.inl ⟨_, rfl⟩ | exact Or.inr (Or.inl rfl) | exact Or.inr (Or.inr ⟨_, rfl⟩))), by decide⟩
  | true, 8, h => exact ⟨St3.ok h (fun x hx => eL hx on (by omega) (by omega)) (fun x hx => eF hx (by omega) (by omega)) (fun x hx => eT hx (fun e => by cases e)) (by show 0 ≤ 400; decide) (fun p hp => by cases hp), by decide⟩
theorem thAcc (h : Th V false (380 - 4 * j) (2 * j) j x) (hv : Vj V j v) (hh : HandleR x 0 9 32 j v y outs) : Th V false (380 - 4 * j - 2) (2 * j + 1) j y ∧ outs = [oAcd j] := by
  have hf := hv.few
  exact Fo.acc (k := 2) h (by decide) hv.ok.2 (by omega) hh
theorem thLrn (h : Th V false (380 - 4 * j - 2) (2 * j + 1) j x) (hv : Vj V j v) (hh : HandleR x 0 12 0 j v y outs) : Th V false (380 - 4 * j - 4) (2 * j + 2) (j + 1) y ∧ outs = [] := by
  have hf := hv.few
  obtain ⟨g1, g2⟩ := Fo.lrn (k := 2) (m := 380 - 4 * j - 2) (c := 2 * j + 1) (l := 6) h hv.ok.2 hv.at_ (by omega) (by omega) hh
  exact ⟨Fo.mono (k := 2) (l := 6) g1 (by omega) (by omega) (Int.le_refl _), g2⟩
/-- Behind a message that is given up. -/
theorem St3.give {P0 P1 P2 : Nd → Prop} {p : Int × Om} {l : List (Int × Om)} (h : St3 P0 P1 P2 (p :: l) xs ms) : St3 P0 P1 P2 l xs (ms.drop 1) := by
  obtain ⟨x0, x1, x2, rfl, h1, h2, h3, rfl⟩ := h
  exact ⟨x0, x1, x2, rfl, h1, h2, h3, rfl⟩
theorem St3.head {P0 P1 P2 : Nd → Prop} {p q : Int × Om} {l : List (Int × Om)} (h : St3 P0 P1 P2 (p :: l) xs ms) (hq : ms[0]? = some q) : q = p := by
  obtain ⟨x0, x1, x2, rfl, h1, h2, h3, rfl⟩ := h
  cases hq; rfl
/-- The third node is deaf: what is for it is given up. -/
theorem vS_give (h : vS V j v d i xs ms) (hd : d = true) {q : Int × Om} (hq : ms[0]? = some q) (h2 : q.2.dst = 2) : vS V j v d (i + 1) xs (ms.drop 1) := by
  subst hd
  have no : ∀ {P0 P1 P2 : Nd → Prop} {p : Int × Om} {l : List (Int × Om)}, St3 P0 P1 P2 (p :: l) xs ms → p.2.dst ≠ 2 → False := fun h hn => hn (by rw [← h.head hq]; exact h2)
  match i, h with
  | 0, h => exact (no h (by show ¬ ((0 : Nat) : Int) = 2; decide)).elim
  | 1, h => exact (no h (by show ¬ ((1 : Nat) : Int) = 2; decide)).elim
  | 2, h => exact h.give
  | 3, h => exact (no h (by show ¬ (0 : Int) = 2; decide)).elim
  | 4, h => exact (no h (by show ¬ (0 : Int) = 2; decide)).elim
  | 5, h => exact (no h (by show ¬ ((0 : Nat) : Int) = 2; decide)).elim
  | 6, h => exact (no h (by show ¬ ((1 : Nat) : Int) = 2; decide)).elim
  | 7, h => exact h.give
  | 8, h =>
    obtain ⟨x0, x1, x2, rfl, h1, h2, h3, rfl⟩ := h
    cases hq
  | _ + 9, h => simp [vS] at h
theorem vS_step (hv : Vj V j v) (h : vS V j v d i xs ms) (hm : ms ≠ []) (hno : d = true → ∀ q, ms[0]? = some q → q.2.dst ≠ 2) (hf : ∀ z ∈ xs, NdFacts z) (hd : DelR xs ms 0 false xs' ms') : vS V j v d (i + 1) xs' ms' := by
  have hw := hv.few
  have hj : j + 1 ≤ V.length := (List.getElem?_eq_some_iff.1 hv.at_).1
  have hat : ∀ {P0 P1 P2 : Nd → Prop} {p : Int × Om} {l : List (Int × Om)}, St3 P0 P1 P2 (p :: l) xs ms → ms[0]? = some p := fun h => by
    obtain ⟨x0, x1, x2, rfl, h1, h2, h3, rfl⟩ := h
    rfl
  have gone : ∀ {P0 P1 P2 : Nd → Prop}, St3 P0 P1 P2 [] xs ms → False := fun h => by
    obtain ⟨x0, x1, x2, rfl, h1, h2, h3, e⟩ := h
    exact hm e
  match d, i, h, hno with
  | d, 0, h, _ => exact St3.del0 h hd hf rfl (out0 := [oAcd j]) (fun x y outs hx hf hh => Ld.acc hx hv.ok.2 (by omega) hh) (by show 2 + 1 ≤ 400; decide)
  | d, 1, h, _ => exact St3.del1 h hd hf rfl (out0 := [oAcd j]) (fun x y outs hx hf hh => Fo.acc hx (by decide) hv.ok.2 (by omega) hh) (by show 2 + 1 ≤ 400; decide)
  | false, 2, h, _ => exact St3.del2 h hd hf rfl (out0 := [oAcd j]) (fun x y outs hx hf hh => thAcc hx hv hh) (by show 2 + 1 ≤ 400; decide)
  | false, 3, h, _ => exact St3.del0 h hd hf rfl (out0 := []) (fun x y outs hx hf hh => Ld.cnt1 hx rfl hh) (by show 2 + 0 ≤ 400; decide)
  | false, 4, h, _ =>
    exact St3.del0 h hd hf rfl (out0 := [oLrn 0 j v, oLrn 1 j v, oLrn 2 j v]) (fun x y outs hx hf hh => by
      have h9 := Ld.cnt2 hx hv.ok.2 hv.at_ (by omega) (by omega) hh
      exact h9) (by show 1 + 3 ≤ 400; decide)
  | false, 5, h, _ =>
    exact St3.del0 h hd hf rfl (out0 := []) (fun x y outs hx hf hh => by
      obtain ⟨rfl, h2⟩ := Ld.cnt0 hx (Or.inr (Or.inr rfl)) hh
      exact ⟨hx, h2⟩) (by show 3 + 0 ≤ 400; decide)
  | false, 6, h, _ =>
    exact St3.del0 h hd hf rfl (out0 := []) (fun x y outs hx hf hh => by
      obtain ⟨rfl, h2⟩ := Ld.lrn0 hx (Nat.lt_succ_self _) hj hh
      exact ⟨hx, h2⟩) (by show 2 + 0 ≤ 400; decide)
  | false, 7, h, _ => exact St3.del1 h hd hf rfl (out0 := []) (fun x y outs hx hf hh => by
      obtain ⟨g1, g2⟩ := Fo.lrn hx hv.ok.2 hv.at_ (by omega) (by omega) hh
      exact ⟨g1.mono (by omega) (by omega) (Int.le_refl _), g2⟩) (by show 1 + 0 ≤ 400; decide)
  | false, 8, h, _ => exact St3.del2 h hd hf rfl (out0 := []) (fun x y outs hx hf hh => thLrn hx hv hh) (by show 0 + 0 ≤ 400; decide)
  | false, 9, h, _ => exact (gone h).elim
  | true, 2, h, hno => exact (hno rfl _ (hat h) rfl).elim
  | true, 3, h, _ => exact St3.del0 h hd hf rfl (out0 := []) (fun x y outs hx hf hh => Ld.cnt1 hx rfl hh) (by show 1 + 0 ≤ 400; decide)
  | true, 4, h, _ =>
    exact St3.del0 h hd hf rfl (out0 := [oLrn 0 j v, oLrn 1 j v, oLrn 2 j v]) (fun x y outs hx hf hh => by
      have h9 := Ld.cnt2 hx hv.ok.2 hv.at_ (by omega) (by omega) hh
      exact h9) (by show 0 + 3 ≤ 400; decide)
  | true, 5, h, _ =>
    exact St3.del0 h hd hf rfl (out0 := []) (fun x y outs hx hf hh => by
      obtain ⟨rfl, h2⟩ := Ld.lrn0 hx (Nat.lt_succ_self _) hj hh
      exact ⟨hx, h2⟩) (by show 2 + 0 ≤ 400; decide)
  | true, 6, h, _ => exact St3.del1 h hd hf rfl (out0 := []) (fun x y outs hx hf hh => by
      obtain ⟨g1, g2⟩ := Fo.lrn hx hv.ok.2 hv.at_ (by omega) (by omega) hh
      exact ⟨g1.mono (by omega) (by omega) (Int.le_refl _), g2⟩) (by show 1 + 0 ≤ 400; decide)
  | true, 7, h, hno => exact (hno rfl _ (hat h) rfl).elim
  | true, 8, h, _ => exact (gone h).elim
theorem vS_end (h : vS V j v d i xs []) (hj : j < 20) : vJ V d (j + 1) xs [] := by
  have no : ∀ {P0 P1 P2 : Nd → Prop} {p : Int × Om} {l : List (Int × Om)}, St3 P0 P1 P2 (p :: l) xs [] → False := fun h => by
    obtain ⟨x0, x1, x2, rfl, h1, h2, h3, e⟩ := h
    cases e
  have fin : ∀ {m c jj}, Th V d m c jj = Th V d m c jj := rfl
  match d, i, h with
  | d, 0, h => exact (no h).elim
  | d, 1, h => exact (no h).elim
  | d, 2, h => exact (no h).elim
  | false, 3, h => exact (no h).elim
  | false, 4, h => exact (no h).elim
  | false, 5, h => exact (no h).elim
  | false, 6, h => exact (no h).elim
  | false, 7, h => exact (no h).elim
  | false, 8, h => exact (no h).elim
  | true, 3, h => exact (no h).elim
  | true, 4, h => exact (no h).elim
  | true, 5, h => exact (no h).elim
  | true, 6, h => exact (no h).elim
  | true, 7, h => exact (no h).elim
  | false, 9, h => exact St3.mono h (fun x hx => (Ld.mono hx (by omega) (by omega)).move) (fun x hx => Fo.mono hx (by omega) (by omega) (Int.le_refl _)) (fun x hx => Fo.mono (k := 2) (l := 6) hx (by omega) (by omega) (Int.le_refl _))
  | true, 8, h => exact St3.mono h (fun x hx => (Ld.mono hx (by omega) (by omega)).move) (fun x hx => Fo.mono hx (by omega) (by omega) (Int.le_refl _)) (fun x hx => hx)
theorem vJ_start (h : Ph V 0 4 6 0 [] xs ms) (d : Bool) : vJ V d 0 xs ms := by
  cases d with
  | false => exact h
  | true => exact h
theorem vJ_done (h : vJ V d n xs ms) (hn : n ≤ 20) : Ph V n 4 6 (if d = true then 0 else n) [] xs ms := by
  cases d with
  | false => exact St3.mono h (fun x hx => hx) (fun x hx => hx) (fun x hx => Fo.mono (k := 2) (l := 6) hx (by show 380 - 2 * n - 2 * n ≤ 380 - 4 * n; omega) (by show 2 * n ≤ n + n; omega) (Int.le_refl _))
  | true => exact St3.mono h (fun x hx => hx) (fun x hx => hx) (fun x hx => Fo.mono (k := 2) (l := 6) hx (by show 380 - 2 * n - 2 * 0 ≤ 380; omega) (by show 0 ≤ n + 0; omega) (Int.le_refl _))
/-- It is proposed. -/
theorem vJ_prop (hv : Vj V j v) (h : vJ V d j xs ms) {er : Int} (hx : xs[0]? = some x) (hp : PropR x v y outs er) : er = 0 ∧ vS V j v d 0 (xs.set 0 y) (sendO 0 outs ms) ∧ outs.length = 3 := by
  have hw := hv.few
  obtain ⟨x0, x1, x2, rfl, h1, h2, h3, rfl⟩ := h
  cases hx
  obtain ⟨g1, g2, g3⟩ := Ld.prop h1 (by omega) hp
  exact ⟨g2, ⟨y, x1, x2, rfl, g1, h2, h3, by rw [g3]; rfl⟩, by rw [g3]; rfl⟩
end Go.Proofs.YtgmdedkingampaaGreat
