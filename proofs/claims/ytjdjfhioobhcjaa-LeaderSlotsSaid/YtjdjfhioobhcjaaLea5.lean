/-
  Package leader: what is found in its maps; what a store into them leaves.
-/
import Derived.Test.YtjdjfhioobhcjaaLea4
namespace Go.Proofs.Ytjdjfhioobhcjaa
open Go.ChangeShapes Go.WideShapes Go.ChangeAt Go.RowKit Go.Maps
set_option maxRecDepth 100000

/-- A vote is known. -/
def knP (A : LS) (v : Vt) : LS := ⟨A.many, A.stage, A.ballot, A.first, A.next, A.prom, fun a => if a = v.slot then some v else A.kn a, A.op⟩
/-- A proposal stands. -/
def opP (A : LS) (v : Vt) (g : Nat → Bool) : LS := ⟨A.many, A.stage, A.ballot, A.first, A.next, A.prom, A.kn, fun a => if a = v.slot then some (v, g) else A.op a⟩
def opD (A : LS) (s : Int) : LS := ⟨A.many, A.stage, A.ballot, A.first, A.next, A.prom, A.kn, fun a => if a = s then none else A.op a⟩
theorem LR_lt {w : World} {D : Nat → Prop} {b0 N : Nat} {ko lo : Option Nat} {A : LS} (h : LeaR w D b0 ko lo N A) : ∀ k, LR b0 ko lo k → k < w.heap.size := fun k hk => h.lt k (h.dr k hk)
/-- Behind a store of a cloned vote among those known. -/
theorem LeaR.putK {D : Nat → Prop} {w wm w2 : World} {b0 bk N B : Nat} {lo : Option Nat} {A : LS} {v : Vt} {sv : Value} {f : Lit → Option Value} (h : LeaR w D b0 (some bk) lo N A) (hB : w.heap.size ≤ B) (hb : Below w.heap.size w wm)
    (hown : wm.ownsRow B 5 1 sv v.val.length (u8s v.val)) (hm : MapR w2 Try.prog 29 bk (N + 1) (putF f (.int .u64 v.slot) (.agg #[.int .u64 v.slot, .int .u64 v.ballot, sv]))) (hg : wm.grownBy w2 (some bk))
    (hf : ∀ a : Int, U1 a → LvV w D (LR b0 (some bk) lo) (f (.int .u64 a)) (A.kn a)) (hx : ∀ kl, (f kl).isSome = true → ∃ a : Int, U1 a ∧ kl = .int .u64 a) (us : U1 v.slot) (ub : U1 v.ballot) (ux : U8 v.val) (lx : v.val.length ≤ 1000000) :
    LeaR w2 (fun k => D k ∨ (w.heap.size ≤ k ∧ k < w2.heap.size)) b0 (some bk) lo (N + 1) (knP A v) ∧ Keep (fun k => k = bk) w w2 := by
  have hkg : Keep (fun k => k = bk) wm w2 := Keep.grown hg (fun k hk => by cases hk; rfl)
  have hk : Keep (fun k => k = bk) w w2 := (Below.keep0 _ hb).trans hkg
  have hlt := LR_lt h
  have hbk := hlt bk (Or.inr (Or.inl rfl))
  have hne := h.ne.1 bk rfl
  refine ⟨⟨(hk.block b0 (hlt b0 (Or.inl rfl)) (fun e => hne e.symm)).trans h.cells, fun k hd => ?_, fun k hr => Or.inl (h.dr k hr), h.ne, ⟨fun b e => ?_, by simp, fun a x hx' => ?_⟩,
    h.op.keep hk (fun k hs _ => by subst hs; exact Or.inr (Or.inl rfl)) (fun b e hs => by subst hs; exact h.ne.2.2 b rfl e) (fun k hd => Or.inl hd) (fun _ _ h => h) (Nat.le_succ _), h.many, h.num, h.live⟩, hk⟩
  · rcases hd with hd | hd
    · exact Nat.lt_of_lt_of_le (h.lt k hd) hk.size
    · exact hd.2
  · cases e
    refine ⟨_, hm, fun a ha => ?_, fun kl hkl => ?_⟩
    · rw [putF_int]
      unfold knP
      simp only
      by_cases e : a = v.slot
      · rw [if_pos e, if_pos e]
        refine ⟨sv, rfl, (SlR.of_own hown).keep hkg (fun k hk' hs => ?_), fun k hk' => ?_⟩
        · have := (hown.lt k hk').1
          omega
        · have h1 := hown.lt k hk'
          have := hkg.size
          exact ⟨Or.inr ⟨by omega, by omega⟩, fun hr => by have := hlt k hr; omega⟩
      · rw [if_neg e, if_neg e]
        exact (hf a ha).keep hk (fun k hs _ => by subst hs; exact Or.inr (Or.inl rfl)) (fun k hd => Or.inl hd) (fun _ _ h => h)
    · unfold putF at hkl
      by_cases e : kl = .int .u64 v.slot
      · exact ⟨v.slot, us, e⟩
      · rw [if_neg e] at hkl; exact hx kl hkl
  · unfold knP at hx'
    simp only at hx'
    by_cases e : a = v.slot
    · rw [if_pos e] at hx'; cases hx'
      subst e
      exact ⟨us, rfl, ub, ux, lx⟩
    · rw [if_neg e] at hx'; exact h.kn.small a x hx'
/-- Behind a store of a proposal, whose bytes are its own already, or of nobody, or new. -/
theorem LeaR.putO {D : Nat → Prop} {w wm w2 : World} {b0 bl N : Nat} {ko : Option Nat} {A : LS} {v : Vt} {g : Nat → Bool} {sv : Value} {f : Lit → Option Value} (h : LeaR w D b0 ko (some bl) N A) (hb : Below w.heap.size w wm)
    (hsl : SlR wm sv (u8s v.val)) (hso : ∀ k, sv.ownBlock = some k → (D k ∧ ¬ LR b0 ko (some bl) k) ∨ (w.heap.size ≤ k ∧ k < wm.heap.size)) (hm : MapR w2 Try.prog 29 bl (N + 1) (putF f (.int .u64 v.slot) (.agg #[.int .u64 v.slot, .int .u64 v.ballot, sv, .int .u32 (msk 32 g)]))) (hg : wm.grownBy w2 (some bl))
    (hf : ∀ a : Int, U1 a → OpV w D (LR b0 ko (some bl)) (f (.int .u64 a)) (A.op a)) (hx : ∀ kl, (f kl).isSome = true → ∃ a : Int, U1 a ∧ kl = .int .u64 a) (us : U1 v.slot) (ub : U1 v.ballot) (ux : U8 v.val) (lx : v.val.length ≤ 1000000) :
    LeaR w2 (fun k => D k ∨ (w.heap.size ≤ k ∧ k < w2.heap.size)) b0 ko (some bl) (N + 1) (opP A v g) ∧ Keep (fun k => k = bl) w w2 := by
  have hkg : Keep (fun k => k = bl) wm w2 := Keep.grown hg (fun k hk => by cases hk; rfl)
  have hk : Keep (fun k => k = bl) w w2 := (Below.keep0 _ hb).trans hkg
  have hlt := LR_lt h
  have hbl := hlt bl (Or.inr (Or.inr rfl))
  have hne := h.ne.2.1 bl rfl
  refine ⟨⟨(hk.block b0 (hlt b0 (Or.inl rfl)) (fun e => hne e.symm)).trans h.cells, fun k hd => ?_, fun k hr => Or.inl (h.dr k hr), h.ne,
    h.kn.keep hk (fun k hs _ => by subst hs; exact Or.inr (Or.inr rfl)) (fun b e hs => by subst hs; exact h.ne.2.2 b e rfl) (fun k hd => Or.inl hd) (fun _ _ h => h) (Nat.le_succ _), ⟨fun b e => ?_, by simp, fun a x hx' => ?_⟩, h.many, h.num, h.live⟩, hk⟩
  · rcases hd with hd | hd
    · exact Nat.lt_of_lt_of_le (h.lt k hd) hk.size
    · exact hd.2
  · cases e
    refine ⟨_, hm, fun a ha => ?_, fun kl hkl => ?_⟩
    · rw [putF_int]
      unfold opP
      simp only
      by_cases e : a = v.slot
      · rw [if_pos e, if_pos e]
        refine ⟨sv, rfl, hsl.keep hkg (fun k hk' hs => ?_), fun k hk' => ?_⟩
        · subst hs
          rcases hso k hk' with h1 | h1
          · exact h1.2 (Or.inr (Or.inr rfl))
          · omega
        · have := hkg.size
          rcases hso k hk' with h1 | h1
          · exact ⟨Or.inl h1.1, h1.2⟩
          · exact ⟨Or.inr ⟨h1.1, by omega⟩, fun hr => by have := hlt k hr; omega⟩
      · rw [if_neg e, if_neg e]
        exact (hf a ha).keep hk (fun k hs _ => by subst hs; exact Or.inr (Or.inr rfl)) (fun k hd => Or.inl hd) (fun _ _ h => h)
    · unfold putF at hkl
      by_cases e : kl = .int .u64 v.slot
      · exact ⟨v.slot, us, e⟩
      · rw [if_neg e] at hkl; exact hx kl hkl
  · unfold opP at hx'
    simp only at hx'
    by_cases e : a = v.slot
    · rw [if_pos e] at hx'; cases hx'
      subst e
      exact ⟨us, rfl, ub, ux, lx⟩
    · rw [if_neg e] at hx'; exact h.op.small a x hx'
theorem LeaR.delO {D : Nat → Prop} {w w2 : World} {b0 bl N : Nat} {ko : Option Nat} {A : LS} {s : Int} {f : Lit → Option Value} (h : LeaR w D b0 ko (some bl) N A) (hm : MapR w2 Try.prog 29 bl N (delF f (.int .u64 s))) (hg : w.grownBy w2 (some bl))
    (hf : ∀ a : Int, U1 a → OpV w D (LR b0 ko (some bl)) (f (.int .u64 a)) (A.op a)) (hx : ∀ kl, (f kl).isSome = true → ∃ a : Int, U1 a ∧ kl = .int .u64 a) :
    LeaR w2 D b0 ko (some bl) N (opD A s) ∧ Keep (fun k => k = bl) w w2 := by
  have hk : Keep (fun k => k = bl) w w2 := Keep.grown hg (fun k hk => by cases hk; rfl)
  have hlt := LR_lt h
  have hne := h.ne.2.1 bl rfl
  refine ⟨⟨(hk.block b0 (hlt b0 (Or.inl rfl)) (fun e => hne e.symm)).trans h.cells, fun k hd => Nat.lt_of_lt_of_le (h.lt k hd) hk.size, h.dr, h.ne,
    h.kn.keep hk (fun k hs _ => by subst hs; exact Or.inr (Or.inr rfl)) (fun b e hs => by subst hs; exact h.ne.2.2 b e rfl) (fun k hd => hd) (fun _ _ h => h) (Nat.le_refl _), ⟨fun b e => ?_, by simp, fun a x hx' => ?_⟩, h.many, h.num, h.live⟩, hk⟩
  · cases e
    refine ⟨_, hm, fun a ha => ?_, fun kl hkl => ?_⟩
    · rw [delF_int]
      unfold opD
      simp only
      by_cases e : a = s
      · rw [if_pos e, if_pos e]; rfl
      · rw [if_neg e, if_neg e]
        exact (hf a ha).keep hk (fun k hs _ => by subst hs; exact Or.inr (Or.inr rfl)) (fun k hd => hd) (fun _ _ h => h)
    · unfold delF at hkl
      by_cases e : kl = .int .u64 s
      · rw [if_pos e] at hkl; cases hkl
      · rw [if_neg e] at hkl; exact hx kl hkl
  · unfold opD at hx'
    simp only at hx'
    by_cases e : a = s
    · rw [if_pos e] at hx'; cases hx'
    · rw [if_neg e] at hx'; exact h.op.small a x hx'
end Go.Proofs.Ytjdjfhioobhcjaa
