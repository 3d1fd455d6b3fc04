/-
  The leader beside the document's: what each call does to both (plain), and their contracts in one shape.
-/
import Derived.Test.YtjdjfhioobhcjaaRlG
import Derived.Test.YtjdjfhioobhcjaaRlK
import Derived.Test.YtjdjfhioobhcjaaLeaX
namespace Go.Proofs.Ytjdjfhioobhcjaa
open Go.ChangeShapes Go.WideShapes Go.ChangeAt Go.RowKit Go.Maps Go.Shelf
set_option maxRecDepth 100000

/-- Both behind k calls. -/
structure LInv (many : Int) (k N : Nat) (A : LS) (R : RL) : Prop where
  rel : Rel A R
  many : A.many = many
  prom : R.prom.length ≤ k
  kn : R.kn.length ≤ 8 * k
  op : R.op.length ≤ 4096 + k
  who : ∀ o ∈ R.op, o.who.length ≤ k
  uf : U1 R.first
  un : 0 ≤ R.next ∧ R.next ≤ 18446744073709551615
  uk : ∀ v ∈ R.kn, U1 v.slot
  n : N ≤ k * 5000
theorem LInv.new {many : Int} : LInv many 0 0 (newLS many) (newR many) :=
  ⟨rel_new many, rfl, Nat.le_refl _, Nat.le_refl _, by simp [newR], by simp [newR], by simp [newR, U1], by simp [newR], by simp [newR], by omega⟩
theorem LInv.same {many : Int} {k N : Nat} {A : LS} {R : RL} (h : LInv many k N A R) : LInv many (k + 1) N A R :=
  ⟨h.rel, h.many, by have := h.prom; omega, by have := h.kn; omega, by have := h.op; omega, fun o ho => by have := h.who o ho; omega, h.uf, h.un, h.uk, by have := h.n; omega⟩
theorem LInv.begin {many : Int} {k N : Nat} {A : LS} {R : RL} (h : LInv many k N A R) (b : Int) {f : Int} (uf : U1 f) : LInv many (k + 1) 0 (beginL A b f) (rBegin R b f) :=
  ⟨h.rel.begin b f, h.many, by simp [rBegin], by simp [rBegin], by simp [rBegin], by simp [rBegin], uf, by simp [rBegin], by simp [rBegin], by omega⟩
theorem LInv.stop {many : Int} {k N : Nat} {A : LS} {R : RL} (h : LInv many k N A R) : LInv many (k + 1) N (stopL A) (rStop R) :=
  ⟨h.rel.stop, h.many, by have := h.prom; simp only [rStop]; omega, by have := h.kn; simp only [rStop]; omega, by simp [rStop], by simp [rStop], h.uf, h.un, h.uk, by have := h.n; omega⟩

/-- What a Begin does. -/
def BgC (A : LS) (b f : Int) (er : Int) (A' : LS) (N N' : Nat) : Prop := (b ≤ A.ballot ∧ er = 32 ∧ A' = A ∧ N' = N) ∨ (A.ballot < b ∧ er = 0 ∧ A' = beginL A b f ∧ N' = 0)
def BgR (R : RL) (b f : Int) (er : Int) (R' : RL) : Prop := (b ≤ R.ballot ∧ er = 32 ∧ R' = R) ∨ (R.ballot < b ∧ er = 0 ∧ R' = rBegin R b f)
theorem LInv.bg {many : Int} {k N N' : Nat} {A A' : LS} {R R' : RL} {b f er er' : Int} (h : LInv many k N A R) (uf : U1 f) (h1 : BgC A b f er A' N N') (h2 : BgR R b f er' R') : er = er' ∧ LInv many (k + 1) N' A' R' := by
  have hb := h.rel.ballot
  rcases h1 with ⟨a, rfl, rfl, rfl⟩ | ⟨a, rfl, rfl, rfl⟩
  · rcases h2 with ⟨b, rfl, rfl⟩ | ⟨b, rfl, rfl⟩
    · exact ⟨rfl, h.same⟩
    · omega
  · rcases h2 with ⟨b, rfl, rfl⟩ | ⟨b, rfl, rfl⟩
    · omega
    · exact ⟨rfl, h.begin _ uf⟩

/-- What a Propose does. -/
def PpC (A : LS) (xs : List Int) (v : Vt) (er : Int) (A' : LS) : Prop :=
  (A.stage ≠ 2 ∧ v = ⟨0, 0, []⟩ ∧ er = 33 ∧ A' = A) ∨ (A.stage = 2 ∧ A.next = 18446744073709551615 ∧ v = ⟨0, 0, []⟩ ∧ er = 37 ∧ A' = A) ∨
  (A.stage = 2 ∧ A.next ≠ 18446744073709551615 ∧ v = ⟨A.next, A.ballot, xs⟩ ∧ er = 0 ∧ A' = nextL (opP A ⟨A.next, A.ballot, xs⟩ (fun _ => false)))
def PpR (R : RL) (xs : List Int) (v : Vt) (er : Int) (R' : RL) : Prop :=
  (R.stage ≠ 2 ∧ v = ⟨0, 0, []⟩ ∧ er = 33 ∧ R' = R) ∨ (R.stage = 2 ∧ R.next = 18446744073709551615 ∧ v = ⟨0, 0, []⟩ ∧ er = 37 ∧ R' = R) ∨
  (R.stage = 2 ∧ R.next ≠ 18446744073709551615 ∧ v = ⟨R.next, R.ballot, xs⟩ ∧ er = 0 ∧ R' = rProp R xs)
theorem LInv.pp {many : Int} {k N N' : Nat} {A A' : LS} {R R' : RL} {xs : List Int} {v v' : Vt} {er er' : Int} (h : LInv many k N A R) (hN : N' ≤ N + 1) (h1 : PpC A xs v er A') (h2 : PpR R xs v' er' R') : v = v' ∧ er = er' ∧ LInv many (k + 1) N' A' R' := by
  have hs := h.rel.stage
  have hn := h.rel.next
  have hb := h.rel.ballot
  have hkn := h.n
  have hq := h.op
  have hw := h.un
  have same : LInv many (k + 1) N' A R := { h.same with n := by omega }
  rcases h1 with ⟨a, rfl, rfl, rfl⟩ | ⟨a, a2, rfl, rfl, rfl⟩ | ⟨a, a2, rfl, rfl, rfl⟩
  · rcases h2 with ⟨b, rfl, rfl, rfl⟩ | ⟨b, b2, rfl, rfl, rfl⟩ | ⟨b, b2, rfl, rfl, rfl⟩
    · exact ⟨rfl, rfl, same⟩
    · exact absurd (hs.trans b) a
    · exact absurd (hs.trans b) a
  · rcases h2 with ⟨b, rfl, rfl, rfl⟩ | ⟨b, b2, rfl, rfl, rfl⟩ | ⟨b, b2, rfl, rfl, rfl⟩
    · exact absurd (hs.symm.trans a) b
    · exact ⟨rfl, rfl, same⟩
    · exact absurd (hn.symm.trans a2) b2
  · rcases h2 with ⟨b, rfl, rfl, rfl⟩ | ⟨b, b2, rfl, rfl, rfl⟩ | ⟨b, b2, rfl, rfl, rfl⟩
    · exact absurd (hs.symm.trans a) b
    · exact absurd (hn.trans b2) a2
    · refine ⟨by rw [hn, hb], rfl, h.rel.propose a xs, h.many, by have := h.prom; simp only [rProp]; omega, by have := h.kn; simp only [rProp]; omega, by simp only [rProp, List.length_append, List.length_cons, List.length_nil]; omega, ?_, h.uf, by simp only [rProp]; omega, h.uk, by omega⟩
      intro o ho
      simp only [rProp, List.mem_append, List.mem_singleton] at ho
      rcases ho with ho | rfl
      · have := h.who o ho; omega
      · simp

/-- What a vote does. -/
def AcC (A : LS) (node b s : Int) (v : Vt) (is : Bool) (A' : LS) : Prop :=
  (¬ (A.stage = 2 ∧ b = A.ballot ∧ 0 ≤ node ∧ node < A.many) ∧ v = ⟨0, 0, []⟩ ∧ is = false ∧ A' = A) ∨
  ((A.stage = 2 ∧ b = A.ballot ∧ 0 ≤ node ∧ node < A.many) ∧ A.op s = none ∧ v = ⟨0, 0, []⟩ ∧ is = false ∧ A' = A) ∨
  ((A.stage = 2 ∧ b = A.ballot ∧ 0 ≤ node ∧ node < A.many) ∧ ∃ v0 g, A.op s = some (v0, g) ∧
    ((A.many / 2 < cnt 32 (addK g node.toNat) ∧ v = v0 ∧ is = true ∧ A' = opD A v0.slot) ∨ (¬ A.many / 2 < cnt 32 (addK g node.toNat) ∧ v = ⟨0, 0, []⟩ ∧ is = false ∧ A' = opP A v0 (addK g node.toNat))))
def AcR (R : RL) (node b s : Int) (v : Vt) (is : Bool) (R' : RL) : Prop :=
  (¬ (R.stage = 2 ∧ b = R.ballot ∧ 0 ≤ node ∧ node < R.many) ∧ v = ⟨0, 0, []⟩ ∧ is = false ∧ R' = R) ∨
  ((R.stage = 2 ∧ b = R.ballot ∧ 0 ≤ node ∧ node < R.many) ∧ v = (chF R.many node s R.op).getD ⟨0, 0, []⟩ ∧ is = (chF R.many node s R.op).isSome ∧ R' = rAcc R node s)
theorem fm_self {R : RL} {node s : Int} (h : lookO R.op s = none) : rAcc R node s = R := by
  unfold rAcc; rw [rVotes_none h]
theorem fm_len_le {α β : Type} (f : α → Option β) (l : List α) : (l.filterMap f).length ≤ l.length := by
  induction l with
  | nil => simp
  | cons x r ih => rw [List.filterMap_cons]; split <;> simp <;> omega
theorem LInv.ac {many : Int} {k N N' : Nat} {A A' : LS} {R R' : RL} {node b s : Int} {v v' : Vt} {is is' : Bool} (h : LInv many k N A R) (hm : many ≤ 32) (hN : N' ≤ N + 1) (h1 : AcC A node b s v is A') (h2 : AcR R node b s v' is' R') : v = v' ∧ is = is' ∧ LInv many (k + 1) N' A' R' := by
  have hkn := h.n
  have same : LInv many (k + 1) N' A R := { h.same with n := by omega }
  have hc : (A.stage = 2 ∧ b = A.ballot ∧ 0 ≤ node ∧ node < A.many) ↔ (R.stage = 2 ∧ b = R.ballot ∧ 0 ≤ node ∧ node < R.many) := by rw [h.rel.stage, h.rel.ballot, h.rel.many]
  have back : ∀ A'', Rel A'' (rAcc R node s) → A''.many = many → LInv many (k + 1) N' A'' (rAcc R node s) := fun A'' hr hmm => by
    refine ⟨hr, hmm, by have := h.prom; simp only [rAcc]; omega, by have := h.kn; simp only [rAcc]; omega, ?_, ?_, h.uf, h.un, h.uk, by omega⟩
    · have h3 := fm_len_le (rVote R.many node s) R.op
      have h4 := h.op
      simp only [rAcc]; omega
    · intro o ho
      simp only [rAcc] at ho
      obtain ⟨q, hq, hv⟩ := List.mem_filterMap.1 ho
      have hw := h.who q hq
      by_cases hsq : q.v.slot = s
      · rw [rVote_yes hsq] at hv
        by_cases hmj : R.many / 2 < ((whoA node q.who).length : Int)
        · rw [if_pos hmj] at hv; cases hv
        · rw [if_neg hmj] at hv
          cases hv
          simp only [whoA]
          by_cases hin : node ∈ q.who
          · rw [if_pos hin]; omega
          · rw [if_neg hin]; simp; omega
      · rw [rVote_no hsq] at hv
        cases hv; omega
  rcases h1 with ⟨a, rfl, rfl, rfl⟩ | ⟨a, a2, rfl, rfl, rfl⟩ | ⟨a, v0, g, a2, a3⟩
  · rcases h2 with ⟨b, rfl, rfl, rfl⟩ | ⟨b, rfl, rfl, rfl⟩
    · exact ⟨rfl, rfl, same⟩
    · exact absurd (hc.2 b) a
  · rcases h2 with ⟨b, rfl, rfl, rfl⟩ | ⟨b, rfl, rfl, rfl⟩
    · exact absurd (hc.1 a) b
    · have hl : lookO R.op s = none := by
        have := h.rel.op s
        cases hh : lookO R.op s with
        | none => rfl
        | some o => rw [hh] at this; obtain ⟨g, hg, _⟩ := this; rw [a2] at hg; cases hg
      have hch : chF R.many node s R.op = none := by
        have := chF_look h.rel.rise R.many node s none
        rw [hl] at this
        exact this
      rw [hch, fm_self hl]
      exact ⟨rfl, rfl, same⟩
  · rcases h2 with ⟨b, rfl, rfl, rfl⟩ | ⟨b, rfl, rfl, rfl⟩
    · exact absurd (hc.1 a) b
    · have hn0 := a.2.2.1
      have hn1 := a.2.2.2
      have hmm := h.many
      have hnn : ((node.toNat : Nat) : Int) = node := Int.toNat_of_nonneg hn0
      have hlk : ∃ o, lookO R.op s = some o ∧ o.v = v0 := by
        have := h.rel.op s
        cases hh : lookO R.op s with
        | none => rw [hh] at this; rw [this] at a2; cases a2
        | some o => rw [hh] at this; obtain ⟨g', hg, _⟩ := this; rw [a2] at hg; cases hg; exact ⟨o, rfl, rfl⟩
      obtain ⟨o, ho, rfl⟩ := hlk
      have hsl : o.v.slot = s := by
        unfold lookO at ho
        simpa using List.find?_some ho
      obtain ⟨⟨o', ho', _, hcn⟩, hv1, hv2⟩ := h.rel.vote (n := node.toNat) (by omega) a2 hsl
      rw [ho] at ho'; cases ho'
      rw [hnn] at hcn hv1 hv2
      have hch := chF_look h.rel.rise R.many node s none
      rw [ho] at hch
      simp only at hch
      have hwl : ((whoA node o.who).length : Int) = cnt 32 (addK g node.toNat) := by unfold whoA; rw [hcn]
      have hch2 : chF R.many node s R.op = if R.many / 2 < (cnt 32 (addK g node.toNat) : Int) then some o.v else none := by rw [← hwl]; exact hch
      rw [← h.rel.many] at hch2 ⊢
      rcases a3 with ⟨c1, rfl, rfl, rfl⟩ | ⟨c1, rfl, rfl, rfl⟩
      · rw [if_pos c1] at hch2
        rw [hch2]
        exact ⟨rfl, rfl, back _ (hv1 c1) hmm⟩
      · rw [if_neg c1] at hch2
        rw [hch2]
        exact ⟨rfl, rfl, back _ (hv2 c1) hmm⟩

/-- Which slots are proposed; whether one is too far. -/
def farR (f : Int) (K : List Vt) : Prop := ∃ v ∈ K, f ≤ v.slot ∧ (v.slot = 18446744073709551615 ∨ 4096 ≤ v.slot - f)
def outL (f b : Int) (K : List Vt) (n : Nat) : List Vt := (List.range n).map fun (k : Nat) => ⟨f + (k : Int), b, ((look K (f + (k : Int))).getD ⟨0, 0, []⟩).val⟩
/-- What a promise does. -/
def PmC (A : LS) (node b low : Int) (vs : List Vt) (out : List Vt) (is : Bool) (A' : LS) : Prop :=
  (¬ (A.stage = 1 ∧ b = A.ballot ∧ 0 ≤ node ∧ node < A.many ∧ A.prom node.toNat = false) ∧ out = [] ∧ is = false ∧ A' = A) ∨
  ((A.stage = 1 ∧ b = A.ballot ∧ 0 ≤ node ∧ node < A.many ∧ A.prom node.toNat = false) ∧ ∃ A1, A1 = promV A node.toNat low vs ∧
    ((¬ A1.many / 2 < cnt 32 A1.prom ∧ out = [] ∧ is = false ∧ A' = A1) ∨ (A1.many / 2 < cnt 32 A1.prom ∧ farL A1 ∧ out = [] ∧ is = false ∧ A' = stopL A1) ∨
     (A1.many / 2 < cnt 32 A1.prom ∧ ¬ farL A1 ∧ ∃ en ks, IsEnd A1 en ∧ IsOKeys (leadP A1 en) ks ∧ out = opL (leadP A1 en) ks ∧ is = true ∧ A' = leadL A1 en)))
def PmR (R : RL) (node b low : Int) (vs : List Vt) (out : List Vt) (is : Bool) (R' : RL) : Prop :=
  (¬ (R.stage = 1 ∧ b = R.ballot ∧ 0 ≤ node ∧ node < R.many ∧ ¬ node ∈ R.prom) ∧ out = [] ∧ is = false ∧ R' = R) ∨
  ((R.stage = 1 ∧ b = R.ballot ∧ 0 ≤ node ∧ node < R.many ∧ ¬ node ∈ R.prom) ∧ ∃ R1, R1 = rProm R node low vs ∧
    (((R1.prom.length : Int) ≤ R1.many / 2 ∧ out = [] ∧ is = false ∧ R' = R1) ∨ (R1.many / 2 < (R1.prom.length : Int) ∧ farR R1.first R1.kn ∧ out = [] ∧ is = false ∧ R' = rStop R1) ∨
     (R1.many / 2 < (R1.prom.length : Int) ∧ ¬ farR R1.first R1.kn ∧ ∃ (n : Nat) (en : Int), en = endK R1.first R1.kn R1.kn.length ∧ en = R1.first + (n : Int) ∧ out = outL R1.first R1.ballot R1.kn n ∧ is = true ∧ R' = rLead R1 en out)))
theorem LInv.pm {many : Int} {k N N' : Nat} {A A' : LS} {R R' : RL} {node b low : Int} {vs out out' : List Vt} {is is' : Bool} (h : LInv many k N A R) (hm : many ≤ 32) (hl8 : vs.length ≤ 8) (ul : U1 low) (uv : ∀ v ∈ vs, U1 v.slot) (hN : N' ≤ N + vs.length + 4097)
    (h1 : PmC A node b low vs out is A') (h2 : PmR R node b low vs out' is' R') : out = out' ∧ is = is' ∧ out.length ≤ 1000000 ∧ LInv many (k + 1) N' A' R' := by
  have hkn := h.n
  have same : LInv many (k + 1) N' A R := { h.same with n := by omega }
  have hc : (A.stage = 1 ∧ b = A.ballot ∧ 0 ≤ node ∧ node < A.many ∧ A.prom node.toNat = false) ↔ (R.stage = 1 ∧ b = R.ballot ∧ 0 ≤ node ∧ node < R.many ∧ ¬ node ∈ R.prom) := by
    rw [h.rel.stage, h.rel.ballot, h.rel.many]
    constructor
    · rintro ⟨a1, a2, a3, a4, a5⟩
      refine ⟨a1, a2, a3, a4, fun hin => ?_⟩
      have := (h.rel.prom.has (n := node.toNat) (by have := h.rel.many; have := h.many; omega)).1 (by rw [Int.toNat_of_nonneg a3]; exact hin)
      rw [a5] at this; cases this
    · rintro ⟨a1, a2, a3, a4, a5⟩
      refine ⟨a1, a2, a3, a4, ?_⟩
      cases hh : A.prom node.toNat with
      | false => rfl
      | true =>
        have := (h.rel.prom.has (n := node.toNat) (by have := h.rel.many; have := h.many; omega)).2 hh
        rw [Int.toNat_of_nonneg a3] at this
        exact absurd this a5
  rcases h1 with ⟨a, rfl, rfl, rfl⟩ | ⟨a, A1, hA1, a3⟩
  · rcases h2 with ⟨b, rfl, rfl, rfl⟩ | ⟨b, _⟩
    · exact ⟨rfl, rfl, by simp, same⟩
    · exact absurd (hc.2 b) a
  · rcases h2 with ⟨b, _⟩ | ⟨b, R1, hR1, b3⟩
    · exact absurd (hc.1 a) b
    · obtain ⟨a1, _, hn0, hn1, hp⟩ := a
      have hnn : ((node.toNat : Nat) : Int) = node := Int.toNat_of_nonneg hn0
      have hr := h.rel.promise (n := node.toNat) (by have := h.many; omega) hp low vs
      rw [hnn, ← hA1, ← hR1] at hr
      have hfl := foldAdd_len vs R.kn
      have hR : LInv many (k + 1) (N + vs.length) A1 R1 := by
        refine ⟨hr, ?_, ?_, ?_, ?_, ?_, ?_, ?_, ?_, by omega⟩
        · have h3 := hr.many
          have h4 : R1.many = R.many := by rw [hR1]; rfl
          rw [h3, h4, ← h.rel.many, h.many]
        · have := h.prom; rw [hR1]; simp only [rProm, List.length_append, List.length_cons, List.length_nil]; omega
        · have := h.kn; rw [hR1]; simp only [rProm]; omega
        · have := h.op; rw [hR1]; simp only [rProm]; omega
        · intro o ho
          rw [hR1] at ho
          have := h.who o ho; omega
        · have h3 := h.uf
          rw [hR1]; simp only [rProm]; unfold U1 at *; omega
        · rw [hR1]; exact h.un
        · intro v hv
          rw [hR1] at hv
          rcases foldAdd_mem hv with hv | hv
          · exact uv v hv
          · exact h.uk v hv
      have hcl : (cnt 32 A1.prom : Int) = (R1.prom.length : Int) := by rw [hr.prom.cnt]
      have hst : A1.stage = 1 := by
        have h4 : R1.stage = R.stage := by rw [hR1]; rfl
        rw [hr.stage, h4, ← h.rel.stage, a1]
      have hmm := hr.many
      have hff : farL A1 ↔ farR R1.first R1.kn := hr.farther
      rcases a3 with ⟨c1, rfl, rfl, rfl⟩ | ⟨c1, c2, rfl, rfl, rfl⟩ | ⟨c1, c2, en, ks, c3, c4, rfl, rfl, rfl⟩
      · rcases b3 with ⟨d1, rfl, rfl, rfl⟩ | ⟨d1, d2, rfl, rfl, rfl⟩ | ⟨d1, d2, n, en', d3, d4, rfl, rfl, rfl⟩
        · exact ⟨rfl, rfl, by simp, { hR with n := by omega }⟩
        · omega
        · omega
      · rcases b3 with ⟨d1, rfl, rfl, rfl⟩ | ⟨d1, d2, rfl, rfl, rfl⟩ | ⟨d1, d2, n, en', d3, d4, rfl, rfl, rfl⟩
        · omega
        · refine ⟨rfl, rfl, by simp, hr.stop, hR.many, hR.prom, hR.kn, by simp [rStop], by simp [rStop], hR.uf, hR.un, hR.uk, by omega⟩
        · exact absurd (hff.1 c2) d2
      · rcases b3 with ⟨d1, rfl, rfl, rfl⟩ | ⟨d1, d2, rfl, rfl, rfl⟩ | ⟨d1, d2, n, en', d3, d4, rfl, rfl, rfl⟩
        · omega
        · exact absurd (hff.2 d2) c2
        · have huf := hR.uf
          have hie := hr.isEnd c2 (by rw [hr.first]; exact huf) hR.uk
          have hen : en = en' := by rw [d3]; exact c3.unique hie
          subst hen
          have hop : ∀ a, A1.op a = none := by
            intro a
            have h3 := hr.op a
            rw [hr.fresh (by rw [← hr.stage]; exact hst)] at h3
            exact h3
          have hn2 : A1.first + (n : Int) = en := by rw [hr.first]; exact d4.symm
          have hout : opL (leadP A1 en) ks = outL R1.first R1.ballot R1.kn n := by
            rw [lead_votes c4 hop hn2]
            unfold leadV outL kOr
            simp only [hr.first, hr.ballot, hr.kn]
          have hlv : leadV A1 n = outL R1.first R1.ballot R1.kn n := by rw [← hout, lead_votes c4 hop hn2]
          have hnear := c3.near c2
          have hol : (outL R1.first R1.ballot R1.kn n).length = n := by simp [outL]
          have hrl := hr.lead hst hn2
          rw [hlv] at hrl
          refine ⟨hout, rfl, by rw [hout, hol]; omega, hrl, hR.many, hR.prom, hR.kn, by simp only [rLead, List.length_map]; omega, by simp [rLead], hR.uf, ?_, hR.uk, by omega⟩
          have h3 := c3.1.2
          unfold U1 at h3
          exact h3
end Go.Proofs.Ytjdjfhioobhcjaa
