/-
  Package leader: Propose.
-/
import Derived.Test.YtjdjfhioobhcjaaLea3
namespace Go.Proofs.Ytjdjfhioobhcjaa
open Go.ChangeShapes Go.WideShapes Go.ChangeAt Go.RowKit Go.Maps
set_option maxRecDepth 100000

theorem and1_u32 {y : Int} (h0 : 0 ≤ y) (h1 : y < 4294967296) : bits BinOp.and IntKind.u32 y 1 = y % 2 := bits_mask .u32 32 (by decide) (fun n h0 h1 => IntWalk.u32_in n (by constructor <;> omega)) 1 (by decide) y h0 (by omega)
/-- A bit of a set's number. -/
theorem bit_of {f : Nat → Bool} {n : Nat} (hn : n < 32) : bits BinOp.and IntKind.u32 ((msk 32 f : Int) / 2 ^ n) 1 = if f n then 1 else 0 := by
  have hl : msk 32 f < 4294967296 := msk_lt 32 f
  have hbit := msk_bit (n := 32) f hn
  have e1 : (msk 32 f : Int) / 2 ^ n = ((msk 32 f / 2 ^ n : Nat) : Int) := by simp
  have hle : msk 32 f / 2 ^ n ≤ msk 32 f := Nat.div_le_self _ _
  rw [e1]
  generalize msk 32 f / 2 ^ n = y at *
  rw [and1_u32 (by omega) (by omega)]
  split at hbit
  · rename_i h; rw [if_pos h]; omega
  · rename_i h; rw [if_neg h]; omega
theorem lprom_no {D : Nat → Prop} {w : World} {b0 N : Nat} {ko lo : Option Nat} {A : LS} (h : LeaR w D b0 ko lo N A) {node b low : Int} {v : Value} (hno : ¬ (A.stage = 1 ∧ b = A.ballot ∧ 0 ≤ node ∧ node < A.many)) :
    Calls Try.prog 33 #[.pointer (some ⟨b0, 0, none⟩), .int .i64 node, .int .u64 b, .int .u64 low, v] w fun e w' => e = .returned (.tuple #[.slice none 0 0, .bool false]) ∧ w = w' := by
  have HI := Lib.hid (lis_any h 1 node b)
  have hd : decide (A.stage = 1 ∧ b = A.ballot ∧ 0 ≤ node ∧ node < A.many) = false := decide_eq_false hno
  rw [hd] at HI
  clear h hno hd
  go_enter Try.func33, Try.ntmps33
  go_wp2_with fail
  refine HI.out.mono ?_
  rintro e w1 ⟨rfl, rfl⟩
  go_wp2_with fail
  refine bodyPost_ret (v := .tuple #[.slice none 0 0, .bool false]) (by simp [results, Try.results33, go_sem]) rfl ?_
  exact ⟨rfl, rfl⟩
theorem lprom_twice {D : Nat → Prop} {w : World} {b0 N : Nat} {ko lo : Option Nat} {A : LS} (h : LeaR w D b0 ko lo N A) {n : Nat} {b low : Int} {v : Value} (hyes : A.stage = 1 ∧ b = A.ballot ∧ 0 ≤ (n : Int) ∧ (n : Int) < A.many) (hp : A.prom n = true) :
    Calls Try.prog 33 #[.pointer (some ⟨b0, 0, none⟩), .int .i64 n, .int .u64 b, .int .u64 low, v] w fun e w' => e = .returned (.tuple #[.slice none 0 0, .bool false]) ∧ w = w' := by
  have HI := Lib.hid (lis_any h 1 n b)
  have hd : decide (A.stage = 1 ∧ b = A.ballot ∧ 0 ≤ (n : Int) ∧ (n : Int) < A.many) = true := decide_eq_true hyes
  rw [hd] at HI
  have hm := h.many
  have hn32 : n < 32 := by omega
  obtain ⟨⟨c0, c1, c2, c3, c4, c5, c6, c7⟩, _⟩ := h.cell
  have hand := bit_of (f := A.prom) hn32
  rw [if_pos hp] at hand
  clear h hyes hd hp
  generalize msk 32 A.prom = x at *
  go_enter Try.func33, Try.ntmps33
  go_wp2_with fail
  refine HI.out.mono ?_
  rintro e w1 ⟨rfl, rfl⟩
  go_wp2_with fail
  refine bodyPost_ret (v := .tuple #[.slice none 0 0, .bool false]) (by simp [results, Try.results33, go_sem]) rfl ?_
  exact ⟨rfl, rfl⟩
end Go.Proofs.Ytjdjfhioobhcjaa

namespace Go.Proofs.Ytjdjfhioobhcjaa
open Go.ChangeShapes Go.WideShapes Go.ChangeAt Go.RowKit Go.Maps
set_option maxRecDepth 100000

/-- A vote is known. -/
def knP (A : LS) (v : Vt) : LS := ⟨A.many, A.stage, A.ballot, A.first, A.next, A.prom, fun a => if a = v.slot then some v else A.kn a, A.op⟩
/-- A proposal stands. -/
def opP (A : LS) (v : Vt) (g : Nat → Bool) : LS := ⟨A.many, A.stage, A.ballot, A.first, A.next, A.prom, A.kn, fun a => if a = v.slot then some (v, g) else A.op a⟩
def opD (A : LS) (s : Int) : LS := ⟨A.many, A.stage, A.ballot, A.first, A.next, A.prom, A.kn, fun a => if a = s then none else A.op a⟩
theorem LR_lt {w : World} {D : Nat → Prop} {b0 N : Nat} {ko lo : Option Nat} {A : LS} (h : LeaR w D b0 ko lo N A) : ∀ k, LR b0 ko lo k → k < w.heap.size := fun k hk => h.lt k (h.dr k hk)
/-- Behind a store of a cloned vote among those known. -/
theorem LeaR.putK {D : Nat → Prop} {w wm w2 : World} {b0 bk N B : Nat} {lo : Option Nat} {A : LS} {v : Vt} {sv : Value} {f : Lit → Option Value} (h : LeaR w D b0 (some bk) lo N A) (hB : w.heap.size ≤ B) (hb : Below w.heap.size w wm)
    (hown : wm.ownsRow B 5 1 sv v.val.length (u8s v.val)) (hm : MapR w2 Try.prog 29 bk (N + 1) (putF f (.int .u64 v.slot) (.agg #[.int .u64 v.slot, .int .u64 v.ballot, sv]))) (hg : wm.grownBy w2 (some bk))
    (hf : ∀ a : Int, U1 a → LvV w D (LR b0 (some bk) lo) (f (.int .u64 a)) (A.kn a)) (hx : ∀ kl, (f kl).isSome = true → ∃ a : Int, U1 a ∧ kl = .int .u64 a) (us : U1 v.slot) (ub : U1 v.ballot) (ux : U8 v.val) (lx : v.val.length ≤ 1000000) :
    LeaR w2 (fun k => D k ∨ (w.heap.size ≤ k ∧ k < w2.heap.size)) b0 (some bk) lo (N + 1) (knP A v) ∧ Keep (fun k => k = bk) w w2 := by
  have hkg : Keep (fun k => k = bk) wm w2 := Keep.grown hg (fun k hk => by cases hk; rfl)
  have hk : Keep (fun k => k = bk) w w2 := (Below.keep0 _ hb).trans hkg
  have hlt := LR_lt h
  have hbk := hlt bk (Or.inr (Or.inl rfl))
  have hne := h.ne.1 bk rfl
  refine ⟨⟨(hk.block b0 (hlt b0 (Or.inl rfl)) (fun e => hne e.symm)).trans h.cells, fun k hd => ?_, fun k hr => Or.inl (h.dr k hr), h.ne, ⟨fun b e => ?_, by simp, fun a x hx' => ?_⟩,
    h.op.keep hk (fun k hs _ => by subst hs; exact Or.inr (Or.inl rfl)) (fun b e hs => by subst hs; exact h.ne.2.2 b rfl e) (fun k hd => Or.inl hd) (fun _ _ h => h) (Nat.le_succ _), h.many, h.num, h.live⟩, hk⟩
  · rcases hd with hd | hd
    · exact Nat.lt_of_lt_of_le (h.lt k hd) hk.size
    · exact hd.2
  · cases e
    refine ⟨_, hm, fun a ha => ?_, fun kl hkl => ?_⟩
    · rw [putF_int]
      unfold knP
      simp only
      by_cases e : a = v.slot
      · rw [if_pos e, if_pos e]
        refine ⟨sv, rfl, (SlR.of_own hown).keep hkg (fun k hk' hs => ?_), fun k hk' => ?_⟩
        · have := (hown.lt k hk').1
          omega
        · have h1 := hown.lt k hk'
          have := hkg.size
          exact ⟨Or.inr ⟨by omega, by omega⟩, fun hr => by have := hlt k hr; omega⟩
      · rw [if_neg e, if_neg e]
        exact (hf a ha).keep hk (fun k hs _ => by subst hs; exact Or.inr (Or.inl rfl)) (fun k hd => Or.inl hd) (fun _ _ h => h)
    · unfold putF at hkl
      by_cases e : kl = .int .u64 v.slot
      · exact ⟨v.slot, us, e⟩
      · rw [if_neg e] at hkl; exact hx kl hkl
  · unfold knP at hx'
    simp only at hx'
    by_cases e : a = v.slot
    · rw [if_pos e] at hx'; cases hx'
      subst e
      exact ⟨us, rfl, ub, ux, lx⟩
    · rw [if_neg e] at hx'; exact h.kn.small a x hx'
/-- Behind a store of a proposal, whose bytes are its own already, or of nobody, or new. -/
theorem LeaR.putO {D : Nat → Prop} {w wm w2 : World} {b0 bl N : Nat} {ko : Option Nat} {A : LS} {v : Vt} {g : Nat → Bool} {sv : Value} {f : Lit → Option Value} (h : LeaR w D b0 ko (some bl) N A) (hb : Below w.heap.size w wm)
    (hsl : SlR wm sv (u8s v.val)) (hso : ∀ k, sv.ownBlock = some k → (D k ∧ ¬ LR b0 ko (some bl) k) ∨ (w.heap.size ≤ k ∧ k < wm.heap.size)) (hm : MapR w2 Try.prog 29 bl (N + 1) (putF f (.int .u64 v.slot) (.agg #[.int .u64 v.slot, .int .u64 v.ballot, sv, .int .u32 (msk 32 g)]))) (hg : wm.grownBy w2 (some bl))
    (hf : ∀ a : Int, U1 a → OpV w D (LR b0 ko (some bl)) (f (.int .u64 a)) (A.op a)) (hx : ∀ kl, (f kl).isSome = true → ∃ a : Int, U1 a ∧ kl = .int .u64 a) (us : U1 v.slot) (ub : U1 v.ballot) (ux : U8 v.val) (lx : v.val.length ≤ 1000000) :
    LeaR w2 (fun k => D k ∨ (w.heap.size ≤ k ∧ k < w2.heap.size)) b0 ko (some bl) (N + 1) (opP A v g) ∧ Keep (fun k => k = bl) w w2 := by
  have hkg : Keep (fun k => k = bl) wm w2 := Keep.grown hg (fun k hk => by cases hk; rfl)
  have hk : Keep (fun k => k = bl) w w2 := (Below.keep0 _ hb).trans hkg
  have hlt := LR_lt h
  have hbl := hlt bl (Or.inr (Or.inr rfl))
  have hne := h.ne.2.1 bl rfl
  refine ⟨⟨(hk.block b0 (hlt b0 (Or.inl rfl)) (fun e => hne e.symm)).trans h.cells, fun k hd => ?_, fun k hr => Or.inl (h.dr k hr), h.ne,
    h.kn.keep hk (fun k hs _ => by subst hs; exact Or.inr (Or.inr rfl)) (fun b e hs => by subst hs; exact h.ne.2.2 b e rfl) (fun k hd => Or.inl hd) (fun _ _ h => h) (Nat.le_succ _), ⟨fun b e => ?_, by simp, fun a x hx' => ?_⟩, h.many, h.num, h.live⟩, hk⟩
  · rcases hd with hd | hd
    · exact Nat.lt_of_lt_of_le (h.lt k hd) hk.size
    · exact hd.2
  · cases e
    refine ⟨_, hm, fun a ha => ?_, fun kl hkl => ?_⟩
    · rw [putF_int]
      unfold opP
      simp only
      by_cases e : a = v.slot
      · rw [if_pos e, if_pos e]
        refine ⟨sv, rfl, hsl.keep hkg (fun k hk' hs => ?_), fun k hk' => ?_⟩
        · subst hs
          rcases hso k hk' with h1 | h1
          · exact h1.2 (Or.inr (Or.inr rfl))
          · omega
        · have := hkg.size
          rcases hso k hk' with h1 | h1
          · exact ⟨Or.inl h1.1, h1.2⟩
          · exact ⟨Or.inr ⟨h1.1, by omega⟩, fun hr => by have := hlt k hr; omega⟩
      · rw [if_neg e, if_neg e]
        exact (hf a ha).keep hk (fun k hs _ => by subst hs; exact Or.inr (Or.inr rfl)) (fun k hd => Or.inl hd) (fun _ _ h => h)
    · unfold putF at hkl
      by_cases e : kl = .int .u64 v.slot
      · exact ⟨v.slot, us, e⟩
      · rw [if_neg e] at hkl; exact hx kl hkl
  · unfold opP at hx'
    simp only at hx'
    by_cases e : a = v.slot
    · rw [if_pos e] at hx'; cases hx'
      subst e
      exact ⟨us, rfl, ub, ux, lx⟩
    · rw [if_neg e] at hx'; exact h.op.small a x hx'
theorem LeaR.delO {D : Nat → Prop} {w w2 : World} {b0 bl N : Nat} {ko : Option Nat} {A : LS} {s : Int} {f : Lit → Option Value} (h : LeaR w D b0 ko (some bl) N A) (hm : MapR w2 Try.prog 29 bl N (delF f (.int .u64 s))) (hg : w.grownBy w2 (some bl))
    (hf : ∀ a : Int, U1 a → OpV w D (LR b0 ko (some bl)) (f (.int .u64 a)) (A.op a)) (hx : ∀ kl, (f kl).isSome = true → ∃ a : Int, U1 a ∧ kl = .int .u64 a) :
    LeaR w2 D b0 ko (some bl) N (opD A s) ∧ Keep (fun k => k = bl) w w2 := by
  have hk : Keep (fun k => k = bl) w w2 := Keep.grown hg (fun k hk => by cases hk; rfl)
  have hlt := LR_lt h
  have hne := h.ne.2.1 bl rfl
  refine ⟨⟨(hk.block b0 (hlt b0 (Or.inl rfl)) (fun e => hne e.symm)).trans h.cells, fun k hd => Nat.lt_of_lt_of_le (h.lt k hd) hk.size, h.dr, h.ne,
    h.kn.keep hk (fun k hs _ => by subst hs; exact Or.inr (Or.inr rfl)) (fun b e hs => by subst hs; exact h.ne.2.2 b e rfl) (fun k hd => hd) (fun _ _ h => h) (Nat.le_refl _), ⟨fun b e => ?_, by simp, fun a x hx' => ?_⟩, h.many, h.num, h.live⟩, hk⟩
  · cases e
    refine ⟨_, hm, fun a ha => ?_, fun kl hkl => ?_⟩
    · rw [delF_int]
      unfold opD
      simp only
      by_cases e : a = s
      · rw [if_pos e, if_pos e]; rfl
      · rw [if_neg e, if_neg e]
        exact (hf a ha).keep hk (fun k hs _ => by subst hs; exact Or.inr (Or.inr rfl)) (fun k hd => hd) (fun _ _ h => h)
    · unfold delF at hkl
      by_cases e : kl = .int .u64 s
      · rw [if_pos e] at hkl; cases hkl
      · rw [if_neg e] at hkl; exact hx kl hkl
  · unfold opD at hx'
    simp only at hx'
    by_cases e : a = s
    · rw [if_pos e] at hx'; cases hx'
    · rw [if_neg e] at hx'; exact h.op.small a x hx'
end Go.Proofs.Ytjdjfhioobhcjaa

namespace Go.Proofs.Ytjdjfhioobhcjaa
open Go.ChangeShapes Go.WideShapes Go.ChangeAt Go.RowKit Go.Maps
set_option maxRecDepth 100000

def kOr (A : LS) (slot : Int) : Vt := (A.kn slot).getD ⟨0, 0, []⟩
def oOr (A : LS) (slot : Int) : Vt × (Nat → Bool) := (A.op slot).getD (⟨0, 0, []⟩, fun _ => false)
theorem kOr_some {A : LS} {slot : Int} {v : Vt} (h : A.kn slot = some v) : kOr A slot = v := by unfold kOr; rw [h]; rfl
theorem oOr_some {A : LS} {slot : Int} {v : Vt × (Nat → Bool)} (h : A.op slot = some v) : oOr A slot = v := by unfold oOr; rw [h]; rfl
theorem LeaR.lookK {D : Nat → Prop} {w : World} {b0 bk N : Nat} {lo : Option Nat} {A : LS} (h : LeaR w D b0 (some bk) lo N A) {slot : Int} (us : U1 slot) : ∃ ao c,
    (∀ w' : World, w'.heap[bk]? = w.heap[bk]? → (Instr.lookup 105 (.map (some bk)) (.int .u64 slot) true).run Try.prog w' = .ok (.tuple #[.agg #[.int .u64 (kOr A slot).slot, .int .u64 (kOr A slot).ballot, .slice ao (kOr A slot).val.length c], .bool (A.kn slot).isSome]) w') ∧
    (∀ w' : World, w'.heap[bk]? = w.heap[bk]? → (Instr.lookup 105 (.map (some bk)) (.int .u64 slot) false).run Try.prog w' = .ok (.agg #[.int .u64 (kOr A slot).slot, .int .u64 (kOr A slot).ballot, .slice ao (kOr A slot).val.length c]) w') ∧
    SlR w (.slice ao (kOr A slot).val.length c) (u8s (kOr A slot).val) ∧ (kOr A slot).val.length ≤ 1000000 ∧ U8 (kOr A slot).val ∧ U1 (kOr A slot).ballot ∧ (∀ k, (Value.slice ao (kOr A slot).val.length c).ownBlock = some k → D k ∧ ¬ LR b0 (some bk) lo k) ∧ (kOr A slot).val.length ≤ c ∧ c ≤ 9223372036854775807 := by
  obtain ⟨f, hf, hv, hx⟩ := h.kn.some_ bk rfl
  have hval := hv slot us
  have h1 := fun (w' : World) (hw : w'.heap[bk]? = w.heap[bk]?) => (hf.same hw).look_ok uKeyed Try.underlying105 (zeroVote w') (u_key us)
  have h2 := fun (w' : World) (hw : w'.heap[bk]? = w.heap[bk]?) => (hf.same hw).look uKeyed Try.underlying105 (zeroVote w') (u_key us)
  cases hl : A.kn slot with
  | none =>
    rw [hl] at hval
    have hval : f (.int .u64 slot) = none := hval
    rw [hval] at h1 h2
    have e : kOr A slot = ⟨0, 0, []⟩ := by unfold kOr; rw [hl]; rfl
    rw [e]
    exact ⟨none, 0, h1, h2, SlR.nil w, by simp, (by intro y hy; cases hy), ⟨by decide, by decide⟩, (by intro k hk; cases hk), by simp, by omega⟩
  | some v =>
    rw [hl] at hval
    obtain ⟨sv, e1, e2, e3⟩ := hval
    obtain ⟨hs1, hs2, hs3, hs4, hs5⟩ := h.kn.small slot v hl
    rw [e1] at h1 h2
    obtain ⟨ao, c, rfl, g1, g2⟩ := e2.form
    simp only [List.length_map] at e2 g1 h1 h2 e3
    have e : kOr A slot = v := kOr_some hl
    rw [e]
    exact ⟨ao, c, h1, h2, e2, hs5, hs4, hs3, e3, g1, g2⟩
theorem LeaR.lookO {D : Nat → Prop} {w : World} {b0 bl N : Nat} {ko : Option Nat} {A : LS} (h : LeaR w D b0 ko (some bl) N A) {slot : Int} (us : U1 slot) : ∃ ao c,
    (∀ w' : World, w'.heap[bl]? = w.heap[bl]? → (Instr.lookup 114 (.map (some bl)) (.int .u64 slot) true).run Try.prog w' = .ok (.tuple #[.agg #[.int .u64 (oOr A slot).1.slot, .int .u64 (oOr A slot).1.ballot, .slice ao (oOr A slot).1.val.length c, .int .u32 (msk 32 (oOr A slot).2)], .bool (A.op slot).isSome]) w') ∧
    (∀ w' : World, w'.heap[bl]? = w.heap[bl]? → (Instr.lookup 114 (.map (some bl)) (.int .u64 slot) false).run Try.prog w' = .ok (.agg #[.int .u64 (oOr A slot).1.slot, .int .u64 (oOr A slot).1.ballot, .slice ao (oOr A slot).1.val.length c, .int .u32 (msk 32 (oOr A slot).2)]) w') ∧
    SlR w (.slice ao (oOr A slot).1.val.length c) (u8s (oOr A slot).1.val) ∧ (oOr A slot).1.val.length ≤ 1000000 ∧ U8 (oOr A slot).1.val ∧ U1 (oOr A slot).1.ballot ∧ (∀ k, (Value.slice ao (oOr A slot).1.val.length c).ownBlock = some k → D k ∧ ¬ LR b0 ko (some bl) k) ∧ (oOr A slot).1.val.length ≤ c ∧ c ≤ 9223372036854775807 := by
  obtain ⟨f, hf, hv, hx⟩ := h.op.some_ bl rfl
  have hval := hv slot us
  have h1 := fun (w' : World) (hw : w'.heap[bl]? = w.heap[bl]?) => (hf.same hw).look_ok uKeyed Try.underlying114 (zeroOpen w') (u_key us)
  have h2 := fun (w' : World) (hw : w'.heap[bl]? = w.heap[bl]?) => (hf.same hw).look uKeyed Try.underlying114 (zeroOpen w') (u_key us)
  cases hl : A.op slot with
  | none =>
    rw [hl] at hval
    have hval : f (.int .u64 slot) = none := hval
    rw [hval] at h1 h2
    have e : oOr A slot = (⟨0, 0, []⟩, fun _ => false) := by unfold oOr; rw [hl]; rfl
    rw [e]
    simp only [msk_none]
    exact ⟨none, 0, h1, h2, SlR.nil w, by simp, (by intro y hy; cases hy), ⟨by decide, by decide⟩, (by intro k hk; cases hk), by simp, by omega⟩
  | some q =>
    obtain ⟨v, g⟩ := q
    rw [hl] at hval
    obtain ⟨sv, e1, e2, e3⟩ := hval
    obtain ⟨hs1, hs2, hs3, hs4, hs5⟩ := h.op.small slot (v, g) hl
    simp only at hs2 hs3 hs4 hs5
    rw [e1] at h1 h2
    obtain ⟨ao, c, rfl, g1, g2⟩ := e2.form
    simp only [List.length_map] at e2 g1 h1 h2 e3
    have e : oOr A slot = (v, g) := oOr_some hl
    rw [e]
    exact ⟨ao, c, h1, h2, e2, hs5, hs4, hs3, e3, g1, g2⟩
end Go.Proofs.Ytjdjfhioobhcjaa

namespace Go.Proofs.Ytjdjfhioobhcjaa
open Go.ChangeShapes Go.WideShapes Go.ChangeAt Go.RowKit Go.Maps
set_option maxRecDepth 100000

theorem lpropose_state {D : Nat → Prop} {w : World} {b0 N : Nat} {ko lo : Option Nat} {A : LS} (h : LeaR w D b0 ko lo N A) {sv : Value} (hst : A.stage ≠ 2) :
    Calls Try.prog 36 #[.pointer (some ⟨b0, 0, none⟩), sv] w fun e w' => e = .returned (.tuple #[.agg #[.int .u64 0, .int .u64 0, .slice none 0 0], .int .i64 33]) ∧ Below w.heap.size w w' := by
  have hb1 := (Below.refl w.heap.size w).alloc (Nat.le_refl _) (.cells #[.int .u64 0, .int .u64 0, .slice none 0 0] 39)
  obtain ⟨⟨c0, c1, _⟩, _⟩ := (h.below hb1 (Nat.le_refl _)).cell
  have hb : (A.stage != 2) = true := by simp [hst]
  clear h hst
  go_enter Try.func36, Try.ntmps36
  go_wp2
  have hk := heap_alloc_new w (.cells #[.int .u64 0, .int .u64 0, .slice none 0 0] 39)
  obtain ⟨W4, HW4⟩ : ∃ x, x = w.alloc (.cells #[.int .u64 0, .int .u64 0, .slice none 0 0] 39) := ⟨_, rfl⟩
  rw [← HW4] at hk hb1 ⊢
  have s0 : W4.cell? ⟨w.heap.size, 0, none⟩ = some (.int .u64 0) := World.news_of_block hk 0 _ rfl
  have s1 : W4.cell? ⟨w.heap.size, 1, none⟩ = some (.int .u64 0) := World.news_of_block hk 1 _ rfl
  have s2 : W4.cell? ⟨w.heap.size, 2, none⟩ = some (.slice none 0 0) := World.news_of_block hk 2 _ rfl
  refine bodyPost_ret (v := .tuple #[.agg #[.int .u64 0, .int .u64 0, .slice none 0 0], .int .i64 33]) (by simp [results, Try.results36, go_sem, s0, s1, s2]) rfl ?_
  exact ⟨rfl, hb1⟩
theorem lpropose_worn {D : Nat → Prop} {w : World} {b0 N : Nat} {ko lo : Option Nat} {A : LS} (h : LeaR w D b0 ko lo N A) {sv : Value} (hst : A.stage = 2) (hw : A.next = 18446744073709551615) :
    Calls Try.prog 36 #[.pointer (some ⟨b0, 0, none⟩), sv] w fun e w' => e = .returned (.tuple #[.agg #[.int .u64 0, .int .u64 0, .slice none 0 0], .int .i64 37]) ∧ Below w.heap.size w w' := by
  have hb1 := (Below.refl w.heap.size w).alloc (Nat.le_refl _) (.cells #[.int .u64 0, .int .u64 0, .slice none 0 0] 39)
  obtain ⟨⟨c0, c1, c2, c3, c4, _⟩, _⟩ := (h.below hb1 (Nat.le_refl _)).cell
  have hb : (A.stage != 2) = false := by simp [hst]
  have hn : (A.next == 18446744073709551615) = true := by rw [beq_iff_eq]; exact hw
  clear h hst hw
  go_enter Try.func36, Try.ntmps36
  go_wp2
  have hk := heap_alloc_new w (.cells #[.int .u64 0, .int .u64 0, .slice none 0 0] 39)
  obtain ⟨W4, HW4⟩ : ∃ x, x = w.alloc (.cells #[.int .u64 0, .int .u64 0, .slice none 0 0] 39) := ⟨_, rfl⟩
  rw [← HW4] at hk hb1 ⊢
  have s0 : W4.cell? ⟨w.heap.size, 0, none⟩ = some (.int .u64 0) := World.news_of_block hk 0 _ rfl
  have s1 : W4.cell? ⟨w.heap.size, 1, none⟩ = some (.int .u64 0) := World.news_of_block hk 1 _ rfl
  have s2 : W4.cell? ⟨w.heap.size, 2, none⟩ = some (.slice none 0 0) := World.news_of_block hk 2 _ rfl
  refine bodyPost_ret (v := .tuple #[.agg #[.int .u64 0, .int .u64 0, .slice none 0 0], .int .i64 37]) (by simp [results, Try.results36, go_sem, s0, s1, s2]) rfl ?_
  exact ⟨rfl, hb1⟩
end Go.Proofs.Ytjdjfhioobhcjaa
