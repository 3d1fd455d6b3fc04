/-
  The document's leader: its state, and how it lies in memory.
-/
import Derived.Test.YtjdjfhioobhcjaaAccW
import Derived.Test.YtjdjfhioobhcjaaSepB
namespace Go.Proofs.Ytjdjfhioobhcjaa
open Go.ChangeShapes Go.WideShapes Go.ChangeAt Go.RowKit Go.Maps
set_option maxRecDepth 100000
set_option linter.unusedVariables false
set_option linter.unusedSimpArgs false

/-- A slice whose elements are some cells each, told as its cells. -/
def FlR (w : World) (v : Value) (n : Nat) (cs : List Value) : Prop := ∃ ao c, v = .slice ao n c ∧ n ≤ c ∧ c ≤ 9223372036854775807 ∧ ∀ (i : Nat) u, cs[i]? = some u → ∃ a, ao = some a ∧ w.cell? (a.add i) = some u
theorem FlR.nil (w : World) : FlR w (.slice none 0 0) 0 [] := ⟨none, 0, rfl, Nat.le_refl _, by omega, by simp⟩
theorem FlR.keep {S : Nat → Prop} {w w' : World} {v : Value} {n : Nat} {cs : List Value} (h : FlR w v n cs) (hk : Keep S w w') (ho : ∀ k, v.ownBlock = some k → ¬ S k) : FlR w' v n cs := by
  obtain ⟨ao, c, rfl, h1, h2, hx⟩ := h
  refine ⟨ao, c, rfl, h1, h2, fun i u hi => ?_⟩
  obtain ⟨a, rfl, hc⟩ := hx i u hi
  exact ⟨a, rfl, hk.cell hc (fun hs => ho a.block rfl (by rwa [block_add] at hs))⟩
theorem FlR.of_own {w : World} {base : Nat} {e : TypeId} {v : Value} {n k : Nat} {cs : List Value} (h : w.ownsRow base e k v n cs) (hk : 0 < k) : FlR w v n cs := by
  rcases h.2 with ⟨rfl, h0⟩ | ⟨g, cap, cur, rfl, hb, hg, hnc, hcm, hcs, htake⟩
  · subst h0
    have : cs = [] := List.eq_nil_of_length_eq_zero (by have := h.1; simpa using this)
    subst this
    exact FlR.nil w
  · unfold maxLen at hcm
    exact ⟨some ⟨g, 0, none⟩, cap, rfl, hnc, by omega, fun i u hi => ⟨_, rfl, h.cells (g := g) rfl _ _ hi⟩⟩
theorem FlR.form {w : World} {v : Value} {n : Nat} {cs : List Value} (h : FlR w v n cs) : ∃ ao c, v = .slice ao n c ∧ n ≤ c ∧ c ≤ 9223372036854775807 := by
  obtain ⟨ao, c, e, h1, h2, _⟩ := h
  exact ⟨ao, c, e, h1, h2⟩
theorem FlR.below {B : Nat} {w w' : World} {v : Value} {n : Nat} {cs : List Value} (h : FlR w v n cs) (hb : Below B w w') (hB : w.heap.size ≤ B) : FlR w' v n cs := by
  obtain ⟨ao, c, e, h1, h2, hx⟩ := h
  refine ⟨ao, c, e, h1, h2, fun i u hi => ?_⟩
  obtain ⟨a, ha, hc⟩ := hx i u hi
  exact ⟨a, ha, by rw [hb.cell (by have := World.block_lt_of_cell? w _ hc; omega)]; exact hc⟩
/-- 'append(out, src...)' where elements are some cells each; out nil or the call's own, src whatever. -/
theorem run_appFl {P : Program} {w : World} {t ty : TypeId} (base : Nat) (e : TypeId) (i : TypeInfo) (z : Value) (size bytes : Nat) (ht : P.underlying t = some (.slice e)) (hi : P.info? e = some i) (hz : i.zero = some z)
    (hsize : i.size = size) (hby : i.bytes = bytes) (hzs : z.cells.size = size) (hsz : 0 < size) (hb64 : bytes ≤ 64)
    {v src : Value} {n m : Nat} {xs cs : List Value} (hown : w.ownsRow base e size v n xs) (hsrc : FlR w src m cs) (hcl : cs.length = m * size) (hu : ∀ u ∈ cs, u.oneCell' = true)
    (hlen : n + m ≤ 1099511627776) (hbase : base ≤ w.heap.size) :
    ∃ v' w', (Builtin.append_ #[t, t] ty #[v, src]).run P w = .ok v' w' ∧ w'.ownsRow base e size v' (n + m) (xs ++ cs) ∧ Below base w w' ∧ (∀ g, v'.ownBlock = some g → v.ownBlock = some g ∨ w.heap.size ≤ g) ∧
      (∀ k, k < w.heap.size → some k ≠ v.ownBlock → w'.heap[k]? = w.heap[k]?) := by
  obtain ⟨ao, c, rfl, h1, h2, hx⟩ := hsrc
  cases ao with
  | none =>
    have hcs : cs = [] := by
      cases cs with
      | nil => rfl
      | cons p r => obtain ⟨a, ha, _⟩ := hx 0 _ rfl; cases ha
    subst hcs
    have hm : m = 0 := by
      have hcl' : m * size = 0 := by rw [← hcl]; rfl
      rcases Nat.mul_eq_zero.1 hcl' with h | h
      · exact h
      · omega
    subst hm
    exact ⟨v, w, run_append_none ht hi hown c, by simpa using hown, Below.refl _ _, fun g hg => Or.inl hg, fun k _ _ => rfl⟩
  | some ad =>
    obtain ⟨v', w', hr, h2, h3, h4, h5⟩ := run_append_own_at (P := P) w base t ty e i z size bytes ht hi hz hsize hby hzs hsz v n xs hown ad m c cs hcl
      (fun j u hj => by obtain ⟨a, ha, hc⟩ := hx j u hj; cases ha; exact hc) hu (by unfold maxLen; omega)
      (by have := Nat.mul_le_mul_left (n + m) hb64; omega) hbase
    refine ⟨v', w', hr, h2, (Below.refl _ _).grown h3 hbase (fun k hk => (hown.lt k hk).1), fun g hg => ?_, fun k hk hne => h3.block k hk hne⟩
    rcases h5 with h5 | h5
    · left; rw [← h5]; exact hg
    · right; rw [h5] at hg; cases hg; exact Nat.le_refl _
theorem wpList_appFl {P : Program} {w : World} {ops : Array Oper} {rest : List Oper} {o : Oper} {a : Act} {Q : Exit → Act → World → Prop} (hgd : o.guard = none) (s x : Operand) (t : TypeId)
    (ho : o.op = .call { callee := .builtin .append, args := #[s, x], argTypes := #[t, t] })
    (base : Nat) (e : TypeId) (i : TypeInfo) (z : Value) (size bytes : Nat) (ht : P.underlying t = some (.slice e)) (hi : P.info? e = some i) (hz : i.zero = some z)
    (hsize : i.size = size) (hby : i.bytes = bytes) (hzs : z.cells.size = size) (hsz : 0 < size) (hb64 : bytes ≤ 64)
    {v src : Value} {n m : Nat} {xs cs : List Value} (hs : a.eval s = v) (hx : a.eval x = src) (hown : w.ownsRow base e size v n xs) (hsrc : FlR w src m cs) (hcl : cs.length = m * size) (hu : ∀ u ∈ cs, u.oneCell' = true)
    (hlen : n + m ≤ 1099511627776) (hbase : base ≤ w.heap.size)
    (h : ∀ v' w', w'.ownsRow base e size v' (n + m) (xs ++ cs) → Below base w w' → (∀ g, v'.ownBlock = some g → v.ownBlock = some g ∨ w.heap.size ≤ g) →
      (∀ k, k < w.heap.size → some k ≠ v.ownBlock → w'.heap[k]? = w.heap[k]?) → wpList P ops Q rest (a.put o.dst v') w') : wpList P ops Q (o :: rest) a w := by
  refine wpList_plain hgd fun K hK => ?_
  obtain ⟨v', w', hr, h2, h3, h4, h5⟩ := run_appFl (P := P) (t := t) (ty := o.type) base e i z size bytes ht hi hz hsize hby hzs hsz hb64 hown hsrc hcl hu hlen hbase
  unfold Oper.wp execOp
  simp only [ho, resolve, invoke, builtin, Sem.run_bind, Sem.run_pure, Result.andThen_ok, List.map_toArray, List.map_cons, List.map_nil, hs, hx, hr]
  exact hK _ _ (h v' w' h2 h3 h4 h5)

def i64s (xs : List Int) : List Value := xs.map (Value.int .i64)
/-- A proposal that is open, as the document has it. -/
structure RO where
  v : Vt
  who : List Int
/-- The document's leader. -/
structure RL where
  many : Int
  stage : Int
  ballot : Int
  first : Int
  next : Int
  prom : List Int
  kn : List Vt
  op : List RO
/-- What a slice's block may be. -/
def OwnS (S : Nat → Prop) (v : Value) : Prop := ∀ k, v.ownBlock = some k → S k
theorem OwnS.nil (S : Nat → Prop) : OwnS S (.slice none 0 0) := fun k h => by cases h
theorem OwnS.mono {S S' : Nat → Prop} {v : Value} (h : OwnS S v) (hs : ∀ k, S k → S' k) : OwnS S' v := fun k hk => hs k (h k hk)
/-- The cells of proposals: four each, the last one a slice of its own. -/
def OC (S : Nat → Prop) (w : World) (vs : List Value) (os : List RO) : Prop :=
  vs.length = os.length * 4 ∧ ∀ (i : Nat) o, os[i]? = some o → vs[i * 4]? = some (.int .u64 o.v.slot) ∧ vs[i * 4 + 1]? = some (.int .u64 o.v.ballot) ∧ vs[i * 4 + 2]? = some (.string (strB o.v.val)) ∧ ∃ sv, vs[i * 4 + 3]? = some sv ∧ SlR w sv (i64s o.who) ∧ OwnS S sv
theorem OC.nil (S : Nat → Prop) (w : World) : OC S w [] [] := ⟨rfl, by simp⟩
theorem OC.keep {S T : Nat → Prop} {w w' : World} {vs : List Value} {os : List RO} (h : OC S w vs os) (hk : Keep T w w') (hd : ∀ k, T k → ¬ S k) : OC S w' vs os :=
  ⟨h.1, fun i o hi => by
    obtain ⟨h1, h2, h3, sv, h4, h5, h6⟩ := h.2 i o hi
    exact ⟨h1, h2, h3, sv, h4, h5.keep hk (fun k hk' ht => hd k ht (h6 k hk')), h6⟩⟩
theorem OC.mono {S S' : Nat → Prop} {w : World} {vs : List Value} {os : List RO} (h : OC S w vs os) (hs : ∀ k, S k → S' k) : OC S' w vs os :=
  ⟨h.1, fun i o hi => by
    obtain ⟨h1, h2, h3, sv, h4, h5, h6⟩ := h.2 i o hi
    exact ⟨h1, h2, h3, sv, h4, h5, h6.mono hs⟩⟩
theorem OC.one {S : Nat → Prop} {w : World} {vs : List Value} {os : List RO} (h : OC S w vs os) : ∀ u ∈ vs, u.oneCell' = true := by
  intro u hu
  obtain ⟨i, hi, rfl⟩ := List.getElem_of_mem hu
  have hl := h.1
  have hr : i / 4 < os.length := by omega
  obtain ⟨h1, h2, h3, sv, h4, h5, h6⟩ := h.2 (i / 4) _ (List.getElem?_eq_getElem hr)
  have hm : i % 4 < 4 := Nat.mod_lt _ (by omega)
  rcases (by omega : i % 4 = 0 ∨ i % 4 = 1 ∨ i % 4 = 2 ∨ i % 4 = 3) with e | e | e | e
  · rw [show i / 4 * 4 = i by omega, List.getElem?_eq_getElem hi] at h1; rw [Option.some.inj h1]; rfl
  · rw [show i / 4 * 4 + 1 = i by omega, List.getElem?_eq_getElem hi] at h2; rw [Option.some.inj h2]; rfl
  · rw [show i / 4 * 4 + 2 = i by omega, List.getElem?_eq_getElem hi] at h3; rw [Option.some.inj h3]; rfl
  · rw [show i / 4 * 4 + 3 = i by omega, List.getElem?_eq_getElem hi] at h4
    obtain ⟨ao, c, e, _⟩ := h5.form
    rw [Option.some.inj h4, e]; rfl
theorem OC.app {S : Nat → Prop} {w : World} {vs us : List Value} {os qs : List RO} (h : OC S w vs os) (h' : OC S w us qs) : OC S w (vs ++ us) (os ++ qs) := by
  refine ⟨by rw [List.length_append, List.length_append, h.1, h'.1]; omega, fun i o hi => ?_⟩
  have hl := h.1
  rw [List.getElem?_append] at hi
  by_cases hlt : i < os.length
  · rw [if_pos hlt] at hi
    obtain ⟨h1, h2, h3, sv, h4, h5, h6⟩ := h.2 i o hi
    exact ⟨by rw [List.getElem?_append_left (by omega)]; exact h1, by rw [List.getElem?_append_left (by omega)]; exact h2, by rw [List.getElem?_append_left (by omega)]; exact h3, sv, by rw [List.getElem?_append_left (by omega)]; exact h4, h5, h6⟩
  · rw [if_neg hlt] at hi
    obtain ⟨h1, h2, h3, sv, h4, h5, h6⟩ := h'.2 (i - os.length) o hi
    refine ⟨?_, ?_, ?_, sv, ?_, h5, h6⟩
    · rw [List.getElem?_append_right (by omega), show i * 4 - vs.length = (i - os.length) * 4 by omega]; exact h1
    · rw [List.getElem?_append_right (by omega), show i * 4 + 1 - vs.length = (i - os.length) * 4 + 1 by omega]; exact h2
    · rw [List.getElem?_append_right (by omega), show i * 4 + 2 - vs.length = (i - os.length) * 4 + 2 by omega]; exact h3
    · rw [List.getElem?_append_right (by omega), show i * 4 + 3 - vs.length = (i - os.length) * 4 + 3 by omega]; exact h4
theorem OC.single {S : Nat → Prop} {w : World} {o : RO} {sv : Value} (hs : SlR w sv (i64s o.who)) (ho : OwnS S sv) : OC S w [.int .u64 o.v.slot, .int .u64 o.v.ballot, .string (strB o.v.val), sv] [o] := by
  refine ⟨rfl, fun i q hi => ?_⟩
  cases i with
  | zero => simp at hi; subst hi; exact ⟨rfl, rfl, rfl, sv, rfl, hs, ho⟩
  | succ i => simp at hi
/-- A slice of proposals. -/
def OsL (S : Nat → Prop) (w : World) (v : Value) (os : List RO) : Prop := ∃ vs, FlR w v os.length vs ∧ OC S w vs os ∧ OwnS S v
theorem OsL.nil (S : Nat → Prop) (w : World) : OsL S w (.slice none 0 0) [] := ⟨[], FlR.nil w, OC.nil S w, OwnS.nil S⟩
theorem OsL.keep {S T : Nat → Prop} {w w' : World} {v : Value} {os : List RO} (h : OsL S w v os) (hk : Keep T w w') (hd : ∀ k, T k → ¬ S k) : OsL S w' v os := by
  obtain ⟨vs, h1, h2, h3⟩ := h
  exact ⟨vs, h1.keep hk (fun k hk' ht => hd k ht (h3 k hk')), h2.keep hk hd, h3⟩
theorem OsL.mono {S S' : Nat → Prop} {w : World} {v : Value} {os : List RO} (h : OsL S w v os) (hs : ∀ k, S k → S' k) : OsL S' w v os := by
  obtain ⟨vs, h1, h2, h3⟩ := h
  exact ⟨vs, h1, h2.mono hs, h3.mono hs⟩
theorem OsL.form {S : Nat → Prop} {w : World} {v : Value} {os : List RO} (h : OsL S w v os) : ∃ ao c, v = .slice ao os.length c ∧ os.length ≤ c ∧ c ≤ 9223372036854775807 := by
  obtain ⟨vs, h1, _⟩ := h
  exact h1.form
/-- One proposal's cells. -/
theorem OsL.at {S : Nat → Prop} {w : World} {ao : Option Addr} {n c : Nat} {os : List RO} (h : OsL S w (.slice ao n c) os) (k : Nat) (o : RO) (hk : os[k]? = some o) :
    ∃ a so sc, ao = some a ∧ w.cell? (a.add (k * 4)) = some (.int .u64 o.v.slot) ∧ w.cell? ⟨(a.add (k * 4)).block, (a.add (k * 4)).off + 1, none⟩ = some (.int .u64 o.v.ballot) ∧
    w.cell? ⟨(a.add (k * 4)).block, (a.add (k * 4)).off + 2, none⟩ = some (.string (strB o.v.val)) ∧ w.cell? ⟨(a.add (k * 4)).block, (a.add (k * 4)).off + 3, none⟩ = some (.slice so o.who.length sc) ∧ SlR w (.slice so o.who.length sc) (i64s o.who) ∧ OwnS S (.slice so o.who.length sc) ∧ o.who.length ≤ sc ∧ sc ≤ 9223372036854775807 := by
  obtain ⟨vs, ⟨a', c', hv, _, _, hx⟩, hC, _⟩ := h
  cases hv
  obtain ⟨h1, h2, h3, sv, h4, h5, h6⟩ := hC.2 k o hk
  obtain ⟨so, sc, e, h7, h8⟩ := h5.form
  simp only [i64s, List.length_map] at e h7
  subst e
  obtain ⟨a, rfl, c0⟩ := hx _ _ h1
  obtain ⟨_, ha, c1⟩ := hx _ _ h2
  cases ha
  obtain ⟨_, ha, c2⟩ := hx _ _ h3
  cases ha
  obtain ⟨_, ha, c3⟩ := hx _ _ h4
  cases ha
  refine ⟨a, so, sc, rfl, c0, ?_, ?_, ?_, h5, h6, h7, h8⟩
  · rw [add_more _ _ _ (by omega)]; exact c1
  · rw [add_more _ _ _ (by omega)]; exact c2
  · rw [add_more _ _ _ (by omega)]; exact c3
/-- How the document's state lies. -/
structure RLs (S : Nat → Prop) (w : World) (R : RL) (pv kv ov : Value) : Prop where
  p : SlR w pv (i64s R.prom)
  po : OwnS S pv
  k : RfL w kv R.kn
  ko : OwnS S kv
  o : OsL S w ov R.op
  lt : ∀ k, S k → k < w.heap.size
def rlV (R : RL) (pv kv ov : Value) : Value := .agg #[.int .i64 R.many, .int .i64 R.stage, .int .u64 R.ballot, .int .u64 R.first, .int .u64 R.next, pv, kv, ov]
theorem RfL.keep {S : Nat → Prop} {w w' : World} {v : Value} {hs : List Vt} (h : RfL w v hs) (hk : Keep S w w') (ho : ∀ k, v.ownBlock = some k → ¬ S k) : RfL w' v hs := by
  obtain ⟨ao, c, rfl, h1, h2, hx⟩ := h
  refine ⟨ao, c, rfl, h1, h2, fun i s hi => ?_⟩
  obtain ⟨a, rfl, c0, c1, c2⟩ := hx i s hi
  have go : ∀ {p : Addr} {u : Value}, p.block = a.block → w.cell? p = some u → w'.cell? p = some u := fun {p u} hp hc => by
    exact hk.cell hc (fun hs => ho a.block rfl (by rwa [hp] at hs))
  exact ⟨a, rfl, go (block_add _ _) c0, go (by simp [block_add]) c1, go (by simp [block_add]) c2⟩
theorem RLs.keep {S T : Nat → Prop} {w w' : World} {R : RL} {pv kv ov : Value} (h : RLs S w R pv kv ov) (hk : Keep T w w') (hd : ∀ k, T k → ¬ S k) : RLs S w' R pv kv ov :=
  ⟨h.p.keep hk (fun k hk' ht => hd k ht (h.po k hk')), h.po, h.k.keep hk (fun k hk' ht => hd k ht (h.ko k hk')), h.ko, h.o.keep hk hd, fun k hs => Nat.lt_of_lt_of_le (h.lt k hs) hk.size⟩
theorem RLs.mono {S S' : Nat → Prop} {w : World} {R : RL} {pv kv ov : Value} (h : RLs S w R pv kv ov) (hs : ∀ k, S k → S' k) (hl : ∀ k, S' k → k < w.heap.size) : RLs S' w R pv kv ov :=
  ⟨h.p, h.po.mono hs, h.k, h.ko.mono hs, h.o.mono hs, hl⟩
/-- What lay, and what is new. -/
def New (S : Nat → Prop) (w w' : World) (k : Nat) : Prop := S k ∨ (w.heap.size ≤ k ∧ k < w'.heap.size)
theorem RLs.below {S : Nat → Prop} {w w' : World} {R : RL} {pv kv ov : Value} (h : RLs S w R pv kv ov) (hb : Below w.heap.size w w') : RLs (New S w w') w' R pv kv ov :=
  (h.keep (Below.keep0 (fun _ => False) hb) (fun _ hf => hf.elim)).mono (fun _ hs => Or.inl hs) (fun k hk => by
    rcases hk with hk | hk
    · exact Nat.lt_of_lt_of_le (h.lt k hk) hb.size
    · exact hk.2)
theorem RLs.step {S : Nat → Prop} {w w' : World} {R : RL} {pv kv ov : Value} (h : RLs S w R pv kv ov) (hb : Below w.heap.size w w') : RLs S w' R pv kv ov :=
  h.keep (Below.keep0 (fun _ => False) hb) (fun _ hf => hf.elim)
theorem RLs.forms {S : Nat → Prop} {w : World} {R : RL} {pv kv ov : Value} (h : RLs S w R pv kv ov) : ∃ po pc ko kc oo oc, pv = .slice po R.prom.length pc ∧ kv = .slice ko R.kn.length kc ∧ ov = .slice oo R.op.length oc ∧ R.prom.length ≤ pc ∧ pc ≤ 9223372036854775807 ∧ R.kn.length ≤ kc ∧ kc ≤ 9223372036854775807 ∧ R.op.length ≤ oc ∧ oc ≤ 9223372036854775807 := by
  obtain ⟨po, pc, e1, a1, a2⟩ := h.p.form
  obtain ⟨ko, kc, e2, b1, b2, _⟩ := h.k
  obtain ⟨oo, oc, e3, c1, c2⟩ := h.o.form
  simp only [i64s, List.length_map] at e1 a1
  exact ⟨po, pc, ko, kc, oo, oc, e1, e2, e3, a1, a2, b1, b2, c1, c2⟩
end Go.Proofs.Ytjdjfhioobhcjaa
