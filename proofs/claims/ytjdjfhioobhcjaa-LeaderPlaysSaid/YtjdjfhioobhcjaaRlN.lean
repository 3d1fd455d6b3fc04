/-
  The document's Promise among other things.
-/
import Derived.Test.YtjdjfhioobhcjaaRlL
import Derived.Test.YtjdjfhioobhcjaaAccU
import Derived.Test.YtjdjfhioobhcjaaRlI
namespace Go.Proofs.Ytjdjfhioobhcjaa
open Go.ChangeShapes Go.WideShapes Go.ChangeAt Go.RowKit Go.Maps Go.Shelf
set_option maxRecDepth 100000
set_option linter.unusedVariables false
set_option linter.unusedSimpArgs false

/-- The document's leader as a thing. -/
def obSt (S : Nat → Prop) (R : RL) (pv kv ov : Value) : Ob := ⟨S, fun w => RLs S w R pv kv ov⟩
theorem obSt_good (S : Nat → Prop) (R : RL) (pv kv ov : Value) : (obSt S R pv kv ov).Good :=
  ⟨fun {T w w'} h hk hs => RLs.keep (show RLs S w R pv kv ov from h) hk hs, fun {w} h k hk => (show RLs S w R pv kv ov from h).lt k hk⟩
/-- The same beside votes that it tells. -/
def obSo (S : Nat → Prop) (R : RL) (pv kv ov v : Value) (out : List Vt) : Ob := ⟨S, fun w => RLs S w R pv kv ov ∧ RfL w v out ∧ OwnS S v⟩
theorem obSo_good (S : Nat → Prop) (R : RL) (pv kv ov v : Value) (out : List Vt) : (obSo S R pv kv ov v out).Good :=
  ⟨fun {T w w'} h hk hs => by
    obtain ⟨h1, h2, h3⟩ := (show RLs S w R pv kv ov ∧ RfL w v out ∧ OwnS S v from h)
    exact ⟨h1.keep hk hs, h2.keep hk (fun k hk' ht => hs k ht (h3 k hk')), h3⟩,
   fun {w} h k hk => (show RLs S w R pv kv ov ∧ RfL w v out ∧ OwnS S v from h).1.lt k hk⟩
/-- How its slices are spelled. -/
structure Sx where
  po : Option Addr
  pn : Nat
  pc : Nat
  ko : Option Addr
  kn : Nat
  kc : Nat
  oo : Option Addr
  on : Nat
  oc : Nat
def Sx.p (q : Sx) : Value := .slice q.po q.pn q.pc
def Sx.k (q : Sx) : Value := .slice q.ko q.kn q.kc
def Sx.o (q : Sx) : Value := .slice q.oo q.on q.oc
theorem RLs.sx {S : Nat → Prop} {w : World} {R : RL} {pv kv ov : Value} (h : RLs S w R pv kv ov) : ∃ q : Sx, pv = q.p ∧ kv = q.k ∧ ov = q.o := by
  obtain ⟨po, pc, ko, kc, oo, oc, rfl, rfl, rfl, _⟩ := h.forms
  exact ⟨⟨po, _, pc, ko, _, kc, oo, _, oc⟩, rfl, rfl, rfl⟩
theorem set_self {α : Type} {l : List α} {i : Nat} {o : α} (h : l[i]? = some o) : l.set i o = l := by
  apply List.ext_getElem?
  intro j
  by_cases hj : i = j
  · subst hj
    rw [h, List.getElem?_set_self (List.getElem?_eq_some_iff.1 h).1]
  · rw [List.getElem?_set_ne hj]
section
variable {W w w' : World} {os : List Ob}
theorem SepW.stNew (h : SepW W w os) (many : Int) : SepW W w (obSt (fun _ => False) (newR many) (.slice none 0 0) (.slice none 0 0) (.slice none 0 0) :: os) :=
  h.new (Below.refl _ _) (obSt_good ..) (show RLs _ _ _ _ _ _ from ⟨SlR.nil w, OwnS.nil _, RfL.nil w, OwnS.nil _, OsL.nil _ _, fun _ hf => hf.elim⟩) (fun _ hf => hf.elim)
theorem New.or {S : Nat → Prop} {w w' : World} {k : Nat} (h : New S w w' k) : S k ∨ w.heap.size ≤ k := by
  rcases h with h | h
  · exact Or.inl h
  · exact Or.inr h.1
variable {S : Nat → Prop} {R R' : RL} {pv kv ov pv' kv' ov' : Value}
theorem SepW.stSet (h : SepW W w os) (i : Nat) (hi : os[i]? = some (obSt S R pv kv ov)) (hb : Below w.heap.size w w') (hr : RLs (New S w w') w' R' pv' kv' ov') : SepW W w' (os.set i (obSt (New S w w') R' pv' kv' ov')) :=
  h.set i hi (Below.keep0 _ hb) (obSt_good ..) hr (fun _ hk => hk.or)
theorem SepW.st (h : SepW W w os) (i : Nat) (hi : os[i]? = some (obSt S R pv kv ov)) : RLs S w R pv kv ov := h.get i hi
theorem SepW.soSt (h : SepW W w os) (i : Nat) {v : Value} {out : List Vt} (hi : os[i]? = some (obSo S R pv kv ov v out)) : SepW W w (os.set i (obSt S R pv kv ov)) :=
  h.set i hi (Keep.refl _ _) (obSt_good ..) (show RLs S w R pv kv ov from (h.get i hi : RLs S w R pv kv ov ∧ RfL w v out ∧ OwnS S v).1) (fun _ hk => Or.inl hk)
theorem SepW.soOut (h : SepW W w os) (i : Nat) {v : Value} {out : List Vt} (hi : os[i]? = some (obSo S R pv kv ov v out)) : RfL w v out := (h.get i hi : RLs S w R pv kv ov ∧ RfL w v out ∧ OwnS S v).2.1
theorem SepW.drBegin (h : SepW W w os) (i : Nat) (hi : os[i]? = some (obSt S R pv kv ov)) (b f : Int) : Calls Try.prog 32 #[rlV R pv kv ov, .int .u64 b, .int .u64 f] w fun e w' =>
    ∃ er R' S' q, BgR R b f er R' ∧ e = .returned (.tuple #[rlV R' (Sx.p q) (Sx.k q) (Sx.o q), .int .i64 er]) ∧ SepW W w' (os.set i (obSt S' R' q.p q.k q.o)) := by
  have hr := h.st i hi
  by_cases hb : b ≤ R.ballot
  · refine (rbegin_old hr hb).mono ?_
    rintro e w' ⟨rfl, hbl⟩
    have hr' := hr.below hbl
    obtain ⟨q, rfl, rfl, rfl⟩ := hr'.sx
    exact ⟨32, R, _, q, Or.inl ⟨hb, rfl, rfl⟩, rfl, h.stSet i hi hbl hr'⟩
  · refine (rbegin_ok hr (b := b) (f := f) (by omega)).mono ?_
    rintro e w' ⟨rfl, hbl⟩
    have hr' := hr.below hbl
    exact ⟨0, rBegin R b f, _, ⟨none, 0, 0, none, 0, 0, none, 0, 0⟩, Or.inr ⟨by omega, rfl, rfl⟩, rfl, h.stSet i hi hbl ⟨SlR.nil w', OwnS.nil _, RfL.nil w', OwnS.nil _, OsL.nil _ _, hr'.lt⟩⟩
theorem SepW.drStop (h : SepW W w os) (i : Nat) (hi : os[i]? = some (obSt S R pv kv ov)) : Calls Try.prog 42 #[rlV R pv kv ov] w fun e w' =>
    ∃ S' q, e = .returned (rlV (rStop R) (Sx.p q) (Sx.k q) (Sx.o q)) ∧ SepW W w' (os.set i (obSt S' (rStop R) q.p q.k q.o)) := by
  have hr := h.st i hi
  refine (rstop_any hr).mono ?_
  rintro e w' ⟨rfl, hbl⟩
  have hr' := hr.below hbl
  have hr2 : RLs (New S w w') w' (rStop R) pv kv (.slice none 0 0) := ⟨hr'.p, hr'.po, hr'.k, hr'.ko, OsL.nil _ _, hr'.lt⟩
  obtain ⟨q, hq1, hq2, hq3⟩ := hr2.sx
  rw [hq1, hq2, hq3] at hr2
  exact ⟨_, q, by rw [hq1, hq2, hq3], h.stSet i hi hbl hr2⟩
theorem rvZ_eq : rvZ = rvV ⟨0, 0, []⟩ := rfl
theorem SepW.drProp (h : SepW W w os) (i : Nat) (hi : os[i]? = some (obSt S R pv kv ov)) (xs : List Int) (hn1 : 0 ≤ R.next ∧ R.next ≤ 18446744073709551615) (hl : R.op.length ≤ 1000000) : Calls Try.prog 37 #[rlV R pv kv ov, .string (strB xs)] w fun e w' =>
    ∃ v er R' S' q, PpR R xs v er R' ∧ e = .returned (.tuple #[rlV R' (Sx.p q) (Sx.k q) (Sx.o q), rvV v, .int .i64 er]) ∧ SepW W w' (os.set i (obSt S' R' q.p q.k q.o)) := by
  have hr := h.st i hi
  by_cases hs : R.stage = 2
  · by_cases hn : R.next = 18446744073709551615
    · refine (rprop_worn hr hs hn).mono ?_
      rintro e w' ⟨rfl, hbl⟩
      have hr' := hr.below hbl
      obtain ⟨q, rfl, rfl, rfl⟩ := hr'.sx
      exact ⟨⟨0, 0, []⟩, 37, R, _, q, Or.inr (Or.inl ⟨hs, hn, rfl, rfl, rfl⟩), rfl, h.stSet i hi hbl hr'⟩
    · refine (rprop_ok (xs := xs) hr hs hn hn1 hl).mono ?_
      rintro e w' ⟨ov', rfl, hr', hbl⟩
      obtain ⟨q, rfl, rfl, rfl⟩ := hr'.sx
      exact ⟨⟨R.next, R.ballot, xs⟩, 0, rProp R xs, _, q, Or.inr (Or.inr ⟨hs, hn, rfl, rfl, rfl⟩), rfl, h.stSet i hi hbl hr'⟩
  · refine (rprop_state hr hs).mono ?_
    rintro e w' ⟨rfl, hbl⟩
    have hr' := hr.below hbl
    obtain ⟨q, rfl, rfl, rfl⟩ := hr'.sx
    exact ⟨⟨0, 0, []⟩, 33, R, _, q, Or.inl ⟨hs, rfl, rfl, rfl⟩, rfl, h.stSet i hi hbl hr'⟩
theorem rvO_get (c : Option Vt) : rvO c = rvV (c.getD ⟨0, 0, []⟩) := by cases c <;> rfl
theorem SepW.drAcc (h : SepW W w os) (i : Nat) (hi : os[i]? = some (obSt S R pv kv ov)) (node b s : Int) (hm : 1 ≤ R.many ∧ R.many ≤ 32) (hl : R.op.length ≤ 1000000) (hw : ∀ o ∈ R.op, o.who.length ≤ 1000) : Calls Try.prog 40 #[rlV R pv kv ov, .int .i64 node, .int .u64 b, .int .u64 s] w fun e w' =>
    ∃ v is R' S' q, AcR R node b s v is R' ∧ e = .returned (.tuple #[rlV R' (Sx.p q) (Sx.k q) (Sx.o q), rvV v, .bool is]) ∧ SepW W w' (os.set i (obSt S' R' q.p q.k q.o)) := by
  have hr := h.st i hi
  by_cases hs : R.stage = 2 ∧ b = R.ballot ∧ 0 ≤ node ∧ node < R.many
  · refine (rlacc_ok (s := s) hr hs hm hl hw).mono ?_
    rintro e w' ⟨ov', rfl, hr', hbl⟩
    obtain ⟨q, rfl, rfl, rfl⟩ := hr'.sx
    exact ⟨_, _, rAcc R node s, _, q, Or.inr ⟨hs, rfl, rfl, rfl⟩, by rw [rvO_get], h.stSet i hi hbl hr'⟩
  · refine (racc_no (s := s) hr hs).mono ?_
    rintro e w' ⟨rfl, hbl⟩
    have hr' := hr.below hbl
    obtain ⟨q, rfl, rfl, rfl⟩ := hr'.sx
    exact ⟨⟨0, 0, []⟩, false, R, _, q, Or.inl ⟨hs, rfl, rfl, rfl⟩, rfl, h.stSet i hi hbl hr'⟩
theorem SepW.drOpens (h : SepW W w os) (i : Nat) (hi : os[i]? = some (obSt S R pv kv ov)) (hl : R.op.length ≤ 1000000) : Calls Try.prog 46 #[rlV R pv kv ov] w fun e w' =>
    ∃ ao c, e = .returned (.slice ao (R.op.map (·.v)).length c) ∧ SepW W w' (obRef (.slice ao (R.op.map (·.v)).length c) (R.op.map (·.v)) :: os) :=
  (ropens_any (h.st i hi) hl).mono fun e w' ⟨ao, c, h1, h2, h3⟩ => ⟨ao, c, h1, h.newRef h2 h3⟩
variable {p : Value} {D : Nat → Prop} {N : Nat} {A : LS}
theorem SepW.argHeld (h : SepW W w os) (i : Nat) (hi : os[i]? = some (obLea p D N A)) {v : Value} {hs : List Vt} (hv : VtL W v hs) : ∀ w', Keep D w w' → VtL w' v hs := fun w' hk => by
  have hb : Below W.heap.size w w' := hk.below h.below.size (fun k hd => h.sep.base _ (List.mem_of_getElem? hi) k hd)
  exact VtL.below (h.below.trans hb) (Nat.le_refl _) hv
theorem SepW.lcBegin (h : SepW W w os) (i : Nat) (hi : os[i]? = some (obLea p D N A)) {b f : Int} (ub : U1 b) (uf : U1 f) : Calls Try.prog 31 #[p, .int .u64 b, .int .u64 f] w fun e w' =>
    ∃ er A' N' D', BgC A b f er A' N N' ∧ e = .returned (.int .i64 er) ∧ SepW W w' (os.set i (obLea p D' N' A')) := by
  by_cases hb : b ≤ A.ballot
  · refine (h.leaBeginOld i hi hb).mono ?_
    rintro e w' ⟨rfl, rfl⟩
    exact ⟨32, A, N, D, Or.inl ⟨hb, rfl, rfl, rfl⟩, rfl, by rw [set_self hi]; exact h⟩
  · refine (h.leaBegin i hi (by omega) ub uf).mono ?_
    rintro e w' ⟨rfl, D', hs⟩
    exact ⟨0, _, 0, D', Or.inr ⟨by omega, rfl, rfl, rfl⟩, rfl, hs⟩
theorem SepW.lcProp (h : SepW W w os) (i : Nat) (hi : os[i]? = some (obLea p D N A)) {sv : Value} {xs : List Int} (hsl : SlR w sv (u8s xs)) (h8 : U8 xs) (hl : xs.length ≤ 1000000) (hN : N < 900000) : Calls Try.prog 36 #[p, sv] w fun e w' =>
    ∃ v er A' N' D' ao c, PpC A xs v er A' ∧ N' ≤ N + 1 ∧ e = .returned (.tuple #[.agg #[.int .u64 v.slot, .int .u64 v.ballot, .slice ao v.val.length c], .int .i64 er]) ∧ SepW W w' (obRow (.slice ao v.val.length c) 5 1 v.val.length (u8s v.val) :: os.set i (obLea p D' N' A')) := by
  by_cases hs : A.stage = 2
  · by_cases hn : A.next = 18446744073709551615
    · refine (h.leaProposeWorn i hi hs hn).mono ?_
      rintro e w' ⟨rfl, hs'⟩
      refine ⟨⟨0, 0, []⟩, 37, A, N, D, none, 0, Or.inr (Or.inl ⟨hs, hn, rfl, rfl, rfl⟩), by omega, rfl, ?_⟩
      rw [set_self hi]
      exact hs'.newRow (World.ownsRow_nil _ _ _ _) (Below.refl _ _)
    · refine (h.leaPropose i hi hsl h8 hl hs hn hN).mono ?_
      rintro e w' ⟨ao, c, D', rfl, hs'⟩
      exact ⟨⟨A.next, A.ballot, xs⟩, 0, _, N + 1, D', ao, c, Or.inr (Or.inr ⟨hs, hn, rfl, rfl, rfl⟩), Nat.le_refl _, rfl, hs'⟩
  · refine (h.leaProposeState i hi hs).mono ?_
    rintro e w' ⟨rfl, hs'⟩
    refine ⟨⟨0, 0, []⟩, 33, A, N, D, none, 0, Or.inl ⟨hs, rfl, rfl, rfl⟩, by omega, rfl, ?_⟩
    rw [set_self hi]
    exact hs'.newRow (World.ownsRow_nil _ _ _ _) (Below.refl _ _)
theorem SepW.lcAcc (h : SepW W w os) (i : Nat) (hi : os[i]? = some (obLea p D N A)) {node b s : Int} (us : U1 s) (hN : N < 900000) : Calls Try.prog 39 #[p, .int .i64 node, .int .u64 b, .int .u64 s] w fun e w' =>
    ∃ v is A' N' D' ao c, AcC A node b s v is A' ∧ N' ≤ N + 1 ∧ e = .returned (.tuple #[.agg #[.int .u64 v.slot, .int .u64 v.ballot, .slice ao v.val.length c], .bool is]) ∧ SepW W w' (obRow (.slice ao v.val.length c) 5 1 v.val.length (u8s v.val) :: os.set i (obLea p D' N' A')) := by
  by_cases hy : A.stage = 2 ∧ b = A.ballot ∧ 0 ≤ node ∧ node < A.many
  · cases ho : A.op s with
    | none =>
      refine (h.leaAccNone i hi hy us ho).mono ?_
      rintro e w' ⟨rfl, hs'⟩
      refine ⟨⟨0, 0, []⟩, false, A, N, D, none, 0, Or.inr (Or.inl ⟨hy, ho, rfl, rfl, rfl⟩), by omega, rfl, ?_⟩
      rw [set_self hi]
      exact hs'.newRow (World.ownsRow_nil _ _ _ _) (Below.refl _ _)
    | some vg =>
      obtain ⟨v0, g⟩ := vg
      have hnn : ((node.toNat : Nat) : Int) = node := Int.toNat_of_nonneg hy.2.2.1
      have hy2 : A.stage = 2 ∧ b = A.ballot ∧ 0 ≤ ((node.toNat : Nat) : Int) ∧ ((node.toNat : Nat) : Int) < A.many := by rw [hnn]; exact hy
      have hc := h.leaAcc i hi hy2 us ho hN
      rw [hnn] at hc
      refine hc.mono ?_
      rintro e w' (⟨hmj, ao, c, D', rfl, hs'⟩ | ⟨hmj, rfl, D', hs'⟩)
      · exact ⟨v0, true, _, N + 1, D', ao, c, Or.inr (Or.inr ⟨hy, v0, g, ho, Or.inl ⟨hmj, rfl, rfl, rfl⟩⟩), Nat.le_refl _, rfl, hs'⟩
      · exact ⟨⟨0, 0, []⟩, false, _, N + 1, D', none, 0, Or.inr (Or.inr ⟨hy, v0, g, ho, Or.inr ⟨hmj, rfl, rfl, rfl⟩⟩), Nat.le_refl _, rfl, hs'.newRow (World.ownsRow_nil _ _ _ _) (Below.refl _ _)⟩
  · refine (h.leaAccNo i hi hy).mono ?_
    rintro e w' ⟨rfl, hs'⟩
    refine ⟨⟨0, 0, []⟩, false, A, N, D, none, 0, Or.inl ⟨hy, rfl, rfl, rfl⟩, by omega, rfl, ?_⟩
    rw [set_self hi]
    exact hs'.newRow (World.ownsRow_nil _ _ _ _) (Below.refl _ _)
theorem SepW.lcProm (h : SepW W w os) (i : Nat) (hi : os[i]? = some (obLea p D N A)) {node b low : Int} {v : Value} {hs : List Vt} (ul : U1 low) (hv : VtL W v hs) (ho : VtsOk hs) (hN : N + hs.length < 800000) : Calls Try.prog 33 #[p, .int .i64 node, .int .u64 b, .int .u64 low, v] w fun e w' =>
    ∃ out is A' N' D' ao c vs, PmC A node b low hs out is A' ∧ N' ≤ N + hs.length + 4097 ∧ e = .returned (.tuple #[.slice ao out.length c, .bool is]) ∧ SepW W w' (obVts (.slice ao out.length c) 39 vs out :: os.set i (obLea p D' N' A')) := by
  by_cases hy : A.stage = 1 ∧ b = A.ballot ∧ 0 ≤ node ∧ node < A.many
  · have hnn : ((node.toNat : Nat) : Int) = node := Int.toNat_of_nonneg hy.2.2.1
    have hy2 : A.stage = 1 ∧ b = A.ballot ∧ 0 ≤ ((node.toNat : Nat) : Int) ∧ ((node.toNat : Nat) : Int) < A.many := by rw [hnn]; exact hy
    cases hp : A.prom node.toNat with
    | true =>
      have hc := h.leaPromTwice i hi (low := low) (v := v) hy2 hp
      rw [hnn] at hc
      refine hc.mono ?_
      rintro e w' ⟨rfl, rfl⟩
      refine ⟨[], false, A, N, D, none, 0, [], Or.inl ⟨(fun hh => by rw [hh.2.2.2.2] at hp; cases hp), rfl, rfl, rfl⟩, by omega, rfl, ?_⟩
      rw [set_self hi]
      exact h.vtsNil _
    | false =>
      have hc := h.leaProm i hi (low := low) (v := v) hy2 hp ul (h.argHeld i hi hv) ho hN
      rw [hnn] at hc
      refine hc.mono ?_
      have hy3 : A.stage = 1 ∧ b = A.ballot ∧ 0 ≤ node ∧ node < A.many ∧ A.prom node.toNat = false := ⟨hy.1, hy.2.1, hy.2.2.1, hy.2.2.2, hp⟩
      rintro e w' (⟨hmj, rfl, D', hs'⟩ | ⟨hmj, hf, rfl, D', hs'⟩ | ⟨hmj, hf, en, D', ks, ao, c, vs, h1, h2, rfl, hs'⟩)
      · exact ⟨[], false, _, _, D', none, 0, [], Or.inr ⟨hy3, _, rfl, Or.inl ⟨hmj, rfl, rfl, rfl⟩⟩, by omega, rfl, hs'.vtsNil _⟩
      · exact ⟨[], false, _, _, D', none, 0, [], Or.inr ⟨hy3, _, rfl, Or.inr (Or.inl ⟨hmj, hf, rfl, rfl, rfl⟩)⟩, by omega, rfl, hs'.vtsNil _⟩
      · exact ⟨_, true, _, _, D', ao, c, vs, Or.inr ⟨hy3, _, rfl, Or.inr (Or.inr ⟨hmj, hf, en, ks, h1, h2, rfl, rfl, rfl⟩)⟩, by omega, rfl, hs'⟩
  · refine (h.leaPromNo i hi hy).mono ?_
    rintro e w' ⟨rfl, rfl⟩
    refine ⟨[], false, A, N, D, none, 0, [], Or.inl ⟨fun hh => hy ⟨hh.1, hh.2.1, hh.2.2.1, hh.2.2.2.1⟩, rfl, rfl, rfl⟩, by omega, rfl, ?_⟩
    rw [set_self hi]
    exact h.vtsNil _
theorem SepW.lvotes (h : SepW W w os) (i : Nat) {v : Value} {e : TypeId} {vs : List Value} {hs : List Vt} (hi : os[i]? = some (obVts v e vs hs)) (hl : hs.length ≤ 1000000) :
    Calls Try.prog 35 #[v] w fun e w' => ∃ ao c, e = .returned (.slice ao hs.length c) ∧ SepW W w' (obRef (.slice ao hs.length c) hs :: os) :=
  (lvotes_any (h.vtL i hi) hl).mono fun e w' ⟨ao, c, h1, h2, h3⟩ => ⟨ao, c, h1, h.newRef h2 h3⟩
theorem SepW.lvotesArg (h : SepW W w os) {v : Value} {hs : List Vt} (hv : VtL W v hs) (hl : hs.length ≤ 1000000) :
    Calls Try.prog 35 #[v] w fun e w' => ∃ ao c, e = .returned (.slice ao hs.length c) ∧ SepW W w' (obRef (.slice ao hs.length c) hs :: os) :=
  (lvotes_any (VtL.below h.below (Nat.le_refl _) hv) hl).mono fun e w' ⟨ao, c, h1, h2, h3⟩ => ⟨ao, c, h1, h.newRef h2 h3⟩
end
end Go.Proofs.Ytjdjfhioobhcjaa

namespace Go.Proofs.Ytjdjfhioobhcjaa
open Go.ChangeShapes Go.WideShapes Go.ChangeAt Go.RowKit Go.Maps Go.Shelf
set_option maxRecDepth 100000
set_option linter.unusedVariables false
set_option linter.unusedSimpArgs false

section
variable {W w w' : World} {os : List Ob} {S : Nat → Prop} {R R' : RL} {pv kv ov pv' kv' ov' : Value}
theorem SepW.soSet (h : SepW W w os) (i : Nat) (hi : os[i]? = some (obSt S R pv kv ov)) (hb : Below w.heap.size w w') (hr : RLs (New S w w') w' R' pv' kv' ov') {v : Value} {out : List Vt} (hv : RfL w' v out) (ho : OwnS (New S w w') v) : SepW W w' (os.set i (obSo (New S w w') R' pv' kv' ov' v out)) :=
  h.set i hi (Below.keep0 _ hb) (obSo_good ..) (show RLs (New S w w') w' R' pv' kv' ov' ∧ RfL w' v out ∧ OwnS (New S w w') v from ⟨hr, hv, ho⟩) (fun _ hk => hk.or)
theorem SepW.drProm (h : SepW W w os) (i : Nat) (hi : os[i]? = some (obSt S R pv kv ov)) (j : Nat) {lv : Value} {ls : List Vt} (hj : os[j]? = some (obRef lv ls)) (node b low : Int) (hpl : R.prom.length ≤ 1000) (hkl : R.kn.length ≤ 100000) (hll : ls.length ≤ 1000) (hm : 1 ≤ R.many ∧ R.many ≤ 32)
    (hu : U1 R.first ∧ U1 low ∧ (∀ v ∈ R.kn, U1 v.slot) ∧ ∀ v ∈ ls, U1 v.slot) : Calls Try.prog 34 #[rlV R pv kv ov, .int .i64 node, .int .u64 b, .int .u64 low, lv] w fun e w' =>
    ∃ out is R' S' q ao c, PmR R node b low ls out is R' ∧ e = .returned (.tuple #[rlV R' (Sx.p q) (Sx.k q) (Sx.o q), .slice ao out.length c, .bool is]) ∧ SepW W w' (os.set i (obSo S' R' q.p q.k q.o (.slice ao out.length c) out)) := by
  have hr := h.st i hi
  by_cases hy : R.stage = 1 ∧ b = R.ballot ∧ 0 ≤ node ∧ node < R.many ∧ ¬ node ∈ R.prom
  · refine (rprom_ok hr (low := low) hy (h.refL j hj) hpl hkl hll hm hu).mono ?_
    rintro e w' (⟨hmj, pv', kv', rfl, hr', hbl⟩ | ⟨hmj, hf, pv', kv', rfl, hr', hbl⟩ | ⟨hmj, hf, n, en, pv', kv', ov', o, c, hen, henn, rfl, hr', hown, hbl⟩)
    · obtain ⟨q, rfl, rfl, rfl⟩ := hr'.sx
      exact ⟨[], false, _, _, q, none, 0, Or.inr ⟨hy, _, rfl, Or.inl ⟨hmj, rfl, rfl, rfl⟩⟩, rfl, h.soSet i hi hbl hr' (RfL.nil _) (OwnS.nil _)⟩
    · obtain ⟨q, rfl, rfl, hq⟩ := hr'.sx
      have he : rlV (rStop (rProm R node low ls)) q.p q.k (.slice none 0 0) = rlV (rStop (rProm R node low ls)) q.p q.k q.o := by rw [← hq]
      rw [hq] at hr'
      exact ⟨[], false, _, _, q, none, 0, Or.inr ⟨hy, _, rfl, Or.inr (Or.inl ⟨hmj, hf, rfl, rfl, rfl⟩)⟩, by rw [he]; rfl, h.soSet i hi hbl hr' (RfL.nil _) (OwnS.nil _)⟩
    · obtain ⟨q, rfl, rfl, rfl⟩ := hr'.sx
      have hol : n = (outL (rProm R node low ls).first (rProm R node low ls).ballot (rProm R node low ls).kn n).length := by simp [outL]
      have hpm : PmR R node b low ls (outL (rProm R node low ls).first (rProm R node low ls).ballot (rProm R node low ls).kn n) true (rLead (rProm R node low ls) en (outL (rProm R node low ls).first (rProm R node low ls).ballot (rProm R node low ls).kn n)) :=
        Or.inr ⟨hy, _, rfl, Or.inr (Or.inr ⟨hmj, hf, n, en, hen, henn, rfl, rfl, rfl⟩)⟩
      have hv : RfL w' (.slice o n c) (outL (rProm R node low ls).first (rProm R node low ls).ballot (rProm R node low ls).kn n) := RfL.of_own hown
      have ho : OwnS (New S w w') (.slice o n c) := fun k hk => Or.inr (hown.lt k hk)
      have hs := h.soSet i hi hbl hr' hv ho
      generalize outL (rProm R node low ls).first (rProm R node low ls).ballot (rProm R node low ls).kn n = out at *
      subst hol
      exact ⟨out, true, _, _, q, o, c, hpm, rfl, hs⟩
  · refine (rprom_no hr (low := low) (lv := lv) hy).mono ?_
    rintro e w' ⟨rfl, hbl⟩
    have hr' := hr.below hbl
    obtain ⟨q, rfl, rfl, rfl⟩ := hr'.sx
    exact ⟨[], false, R, _, q, none, 0, Or.inl ⟨hy, rfl, rfl, rfl⟩, rfl, h.soSet i hi hbl hr' (RfL.nil _) (OwnS.nil _)⟩
end
end Go.Proofs.Ytjdjfhioobhcjaa
