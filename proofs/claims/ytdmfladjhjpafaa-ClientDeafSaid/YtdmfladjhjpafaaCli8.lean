/-
  Package client: ask, up to where it parts by what is asked.
-/
import Derived.Test.YtdmfladjhjpafaaCli7
import Derived.Test.YtdmfladjhjpafaaBlk
namespace Go.Proofs.Ytdmfladjhjpafaa
open Go.ChangeShapes Go.WideShapes Go.ChangeAt Go.RowKit Go.Maps
set_option maxRecDepth 1000000

def setL (A : CS) (seq : Int) (v : Option (Cl × Int)) : CS := ⟨A.id, A.last, A.shards, A.orders, fun a => if a = seq then v else A.l a⟩
abbrev opC (x : Cl) (sv : Value) (m : Int) : Array Value := #[.int .i64 x.op, .int .i64 x.sh, .int .i64 x.sg, .int .u64 x.pos, sv, .int .i64 m]
abbrev outC (tn : Int) (m : Ms) (vv bv : Value) : Array Value := #[.int .i64 tn, .int .i64 m.kind, .int .u64 m.ballot, .int .u64 m.slot, .int .i64 m.sh, .int .i64 m.sg, .int .u64 m.client, .int .u64 m.seq, .int .u64 m.pos, .int .i64 m.code, vv, bv]
abbrev out0 : Array Value := #[.int .i64 0, .int .i64 0, .int .u64 0, .int .u64 0, .int .i64 0, .int .i64 0, .int .u64 0, .int .u64 0, .int .u64 0, .int .i64 0, .slice none 0 0, .slice none 0 0]
theorem CliR.look {D : Nat → Prop} {w : World} {b0 bm N : Nat} {A : CS} (h : CliR w D b0 bm N A) {seq m : Int} {x : Cl} (hs : A.l seq = some (x, m)) :
    ∃ sv, (∀ W : World, W.heap[bm]? = w.heap[bm]? → (Instr.lookup 55 (.map (some bm)) (.int .u64 seq) false).run Try.prog W = .ok (.agg (opC x sv m)) W) ∧ SlR w sv (u8s x.body) ∧ (∀ k, sv.ownBlock = some k → D k ∧ ¬ CR b0 bm k) ∧ U1 seq ∧ ClOk A.shards x ∧ 0 ≤ m ∧ m ≤ 1000000 := by
  obtain ⟨f, h1, h2, h3⟩ := h.map.at_
  obtain ⟨hu, hc, hm0, hm1⟩ := h.map.small seq x m hs
  have hv := h2 seq hu
  rw [hs] at hv
  obtain ⟨sv, e, hsl, ho⟩ := hv
  refine ⟨sv, fun W hW => ?_, hsl, ho, hu, hc, hm0, hm1⟩
  rw [(h1.same hW).look uKeyed Try.underlying55 (zeroCOpen W) (u_key hu), e]
  rfl
theorem CliR.mono {D D' : Nat → Prop} {w : World} {b0 bm N : Nat} {A : CS} (h : CliR w D b0 bm N A) (hD : ∀ k, D k → D' k) (hl : ∀ k, D' k → k < w.heap.size) : CliR w D' b0 bm N A := by
  obtain ⟨sv, ov, h1, h2, h3, h4⟩ := h.cells
  have hk : Keep (fun _ => False) w w := Keep.refl _ _
  exact ⟨⟨sv, ov, h1, h2.keep hk (fun _ h _ => h.elim) hD (fun _ _ h => h), h3, fun k hk => ⟨hD k (h4 k hk).1, (h4 k hk).2⟩⟩, hl, fun k hk => hD k (h.dr k hk), h.ne, h.map.keep hk (fun _ h _ => h.elim) (fun h => h) hD (fun _ _ h => h) (Nat.le_refl _), h.num, h.ord⟩
/-- A call is noted. -/
theorem CliR.store {D : Nat → Prop} {w : World} {b0 bm N : Nat} {A : CS} (h : CliR w D b0 bm N A) {seq m : Int} {x : Cl} {sv : Value} (hu : U1 seq) (hsl : SlR w sv (u8s x.body)) (hso : ∀ k, sv.ownBlock = some k → D k ∧ ¬ CR b0 bm k) (hok : ClOk A.shards x) (hm : 0 ≤ m ∧ m ≤ 1000000) (hN : N < 1000000) :
    ∃ w2, (Instr.mapUpdate 55 (.map (some bm)) (.int .u64 seq) (.agg (opC x sv m))).run Try.prog w = .ok () w2 ∧ CliR w2 D b0 bm (N + 1) (setL A seq (some (x, m))) ∧ Keep (fun k => k = bm) w w2 ∧ w.grownBy w2 (some bm) := by
  obtain ⟨f, h1, h2, h3⟩ := h.map.at_
  obtain ⟨w2, hrun, hm2, hg2⟩ := h1.store uKeyed Try.underlying55 (by unfold maxLen; omega) (u_key hu) (val := .agg (opC x sv m)) (by trivial)
  have hk : Keep (fun k => k = bm) w w2 := Keep.grown hg2 (fun k hk => by cases hk; rfl)
  obtain ⟨rv, ov, g1, g2, g3, g4⟩ := h.cells
  have hS : ∀ k, k = bm → D k → CR b0 bm k := fun k e _ => Or.inr e
  refine ⟨w2, hrun, ⟨⟨rv, ov, (hk.block b0 (h.lt b0 (h.dr _ (Or.inl rfl))) (fun e => h.ne e.symm)).trans g1, g2.keep hk hS (fun _ h => h) (fun _ _ h => h), g3.keep hk (fun k hk' e => (g4 k hk').2 (Or.inr e)), g4⟩, fun k hd => Nat.lt_of_lt_of_le (h.lt k hd) hk.size, h.dr, h.ne, ⟨⟨_, hm2, fun a ha => ?_, fun kl hk' => ?_⟩, fun a y q e => ?_⟩, h.num, h.ord⟩, hk, hg2⟩
  · show ClV w2 D (CR b0 bm) (putF f (.int .u64 seq) (.agg (opC x sv m)) (.int .u64 a)) (if a = seq then some (x, m) else A.l a)
    rw [putF_int]
    by_cases e : a = seq
    · rw [if_pos e, if_pos e]
      exact ⟨sv, rfl, hsl.keep hk (fun k hk' e => (hso k hk').2 (Or.inr e)), hso⟩
    · rw [if_neg e, if_neg e]
      exact (h2 a ha).keep hk hS (fun _ h => h) (fun _ _ h => h)
  · by_cases e : kl = .int .u64 seq
    · exact ⟨seq, hu, e⟩
    · refine h3 kl ?_
      unfold putF at hk'
      rw [if_neg e] at hk'
      exact hk'
  · simp only [setL] at e
    by_cases e' : a = seq
    · rw [if_pos e'] at e
      cases e
      exact ⟨e' ▸ hu, hok, hm⟩
    · rw [if_neg e'] at e
      exact h.map.small a y q e
/-- A row of the client's shards, in a walk. -/
theorem CliR.there {D : Nat → Prop} {w : World} {b0 bm N : Nat} {A : CS} (h : CliR w D b0 bm N A) : ∃ sv ao c, sv = .slice ao A.shards.length c ∧ w.cell? ⟨b0, 2, none⟩ = some sv ∧ A.shards.length ≤ c ∧
    ∀ (i : Nat) (hi : i < A.shards.length), ∃ a uo uc, ao = some a ∧ w.cell? (a.add i) = some (.slice uo A.shards[i].length uc) ∧ A.shards[i].length ≤ uc ∧ ∀ (j : Nat) (hj : j < A.shards[i].length), ∃ b, uo = some b ∧ w.cell? (b.add j) = some (.int .i64 A.shards[i][j]) := by
  obtain ⟨sv, ov, ⟨_, _, c2, _⟩, _, _, hrd, _, _⟩ := h.cell
  obtain ⟨ao, c, rfl, hc1, hc2, hx⟩ := hrd.rows.row
  refine ⟨_, ao, c, rfl, c2, hc1, fun i hi => ?_⟩
  obtain ⟨a, u, ha, hcell, hsl⟩ := hx i hi
  obtain ⟨uo, uc, rfl, hu1, hu2, hy⟩ := hsl
  simp only [List.length_map] at hcell hu1
  exact ⟨a, uo, uc, ha, hcell, hu1, fun j hj => hy j _ (by simp [hj])⟩
theorem CliR.order {D : Nat → Prop} {w : World} {b0 bm N : Nat} {A : CS} (h : CliR w D b0 bm N A) : ∃ a c, w.cell? ⟨b0, 3, none⟩ = some (.slice (some a) A.orders.length c) ∧ A.orders.length ≤ c ∧ ∀ (j : Nat) (hj : j < A.orders.length), w.cell? (a.add j) = some (.int .i64 A.orders[j]) := by
  obtain ⟨sv, ov, ⟨_, _, _, c3, _⟩, _, _, _, ho, _⟩ := h.cell
  obtain ⟨oo, oc, rfl, h1, h2, hy⟩ := ho
  simp only [List.length_map] at c3 h1
  have hp := h.ord.1
  obtain ⟨a, ha, _⟩ := hy 0 (.int .i64 A.orders[0]) (by simp [List.getElem?_eq_getElem (show 0 < A.orders.length by omega)])
  subst ha
  refine ⟨a, oc, c3, h1, fun j hj => ?_⟩
  obtain ⟨b, hb, hc⟩ := hy j (.int .i64 A.orders[j]) (by simp [hj])
  cases hb
  exact hc
/-- What lies there ahead of the switch. -/
structure AskMid (w : World) (D : Nat → Prop) (b0 bm N : Nat) (A : CS) (seq : Int) (x : Cl) (m : Int) (sv : Value) (wx : World) : Prop where
  cli : CliR wx D b0 bm (N + 1) (setL A seq (some (x, m + 1)))
  moved : Moved D D w wx
  out : wx.heap[w.heap.size]? = some (.cells out0 48 (0, 0))
  call : wx.heap[w.heap.size + 2]? = some (.cells (clC x sv) 35 (0, 0))
  msg : wx.heap[w.heap.size + 3]? = some (.cells (msC ⟨16, 0, 0, 0, 0, A.id, seq, 0, 0, [], []⟩ (.slice none 0 0) (.slice none 0 0)) 39 (0, 0))
  sl : SlR wx sv (u8s x.body)
  size : w.heap.size + 4 ≤ wx.heap.size
def oeq (orders : List Int) (n : Nat) : Int := orders.getD (n % orders.length) 0
/-- What the call comes to. -/
def askTo (A : CS) (x : Cl) (m : Int) : Int := if x.op ≤ 2 then (A.shards.getD x.sh.toNat []).getD x.sg.toNat 0 else oeq A.orders m.toNat
def askMs (id seq : Int) (x : Cl) : Ms :=
  if x.op = 1 then ⟨1, 0, 0, x.sh, x.sg, id, seq, x.pos, 0, [], x.body⟩ else if x.op = 2 then ⟨14, 0, 0, 0, 0, id, seq, x.pos, 0, [], []⟩ else
  if x.op = 3 then ⟨16, 0, 0, x.sh, x.sg, id, seq, 0, 1, [], []⟩ else if x.op = 4 then ⟨16, 0, 0, x.sh, 0, id, seq, 0, 2, [], []⟩ else ⟨16, 0, 0, 0, 0, id, seq, x.pos, 3, [], []⟩
def RetAsk (D : Nat → Prop) (b0 bm N : Nat) (A : CS) (seq : Int) (x : Cl) (m : Int) (w : World) (e : Ending) (w' : World) : Prop :=
  ∃ bv, e = .returned (.agg (outC (askTo A x m) (askMs A.id seq x) (.slice none 0 0) bv)) ∧ CliR w' D b0 bm (N + 1) (setL A seq (some (x, m + 1))) ∧ Moved D D w w' ∧ SlR w' bv (u8s (askMs A.id seq x).body) ∧ ∀ k, bv.ownBlock = some k → D k ∧ ¬ CR b0 bm k
/-- The node of a shard's segment, in a walk. -/
theorem shRow {D : Nat → Prop} {w : World} {b0 bm N sn gn : Nat} {A A' : CS} (h : CliR w D b0 bm N A) (hA : A.shards = A'.shards) (ht : ∃ r, A'.shards[((sn : Int)).toNat]? = some r ∧ (gn : Int) < r.length) :
    ∃ tt, (A'.shards.getD ((sn : Int)).toNat []).getD ((gn : Int)).toNat 0 = tt ∧ ∃ a ra L c rl rc, (sn : Int) < ((L : Nat) : Int) ∧ (gn : Int) < ((rl : Nat) : Int) ∧ w.cell? ⟨b0, 2, none⟩ = some (.slice (some a) L c) ∧ w.cell? (a.add sn) = some (.slice (some ra) rl rc) ∧ w.cell? (ra.add gn) = some (.int .i64 tt) := by
  obtain ⟨r, hr, hg⟩ := ht
  rw [← hA] at hr ⊢
  obtain ⟨sv, ao, c, rfl, c2, _, hx⟩ := h.there
  simp only [Int.toNat_natCast] at hr ⊢
  obtain ⟨hlt, he⟩ := List.getElem?_eq_some_iff.1 hr
  obtain ⟨a, uo, uc, rfl, hrow, _, hy⟩ := hx sn hlt
  rw [he] at hrow
  simp only [he] at hy
  have hgl : gn < r.length := by omega
  obtain ⟨ra, rfl, hel⟩ := hy gn hgl
  refine ⟨r[gn], ?_, a, ra, A.shards.length, c, r.length, uc, by omega, hg, c2, hrow, hel⟩
  have h1 : A.shards.getD sn [] = r := by rw [List.getD_eq_getElem?_getD, hr]; rfl
  rw [h1, List.getD_eq_getElem?_getD, List.getElem?_eq_getElem hgl]; rfl
/-- Behind the message's fields. -/
theorem ask_set {D : Nat → Prop} {w W7 W8 : World} {b0 bm N : Nat} {A : CS} {sv : Value} {us : List Value} (hlt : ∀ k, D k → k < w.heap.size) (hs : w.heap.size + 4 ≤ W7.heap.size) (hk : Keep (fun k => k = w.heap.size + 3) W7 W8) (hR : CliR W7 D b0 bm N A) (hmv : Moved D D w W7)
    (e0 : W7.heap[w.heap.size]? = some (.cells out0 48 (0, 0))) (hsl : SlR W7 sv us) (hso : ∀ k, sv.ownBlock = some k → D k ∧ ¬ CR b0 bm k) :
    CliR W8 D b0 bm N A ∧ Moved D D w W8 ∧ W8.heap[w.heap.size]? = some (.cells out0 48 (0, 0)) ∧ SlR W8 sv us := by
  have hk0 : Keep (fun k => D k ∨ w.heap.size ≤ k) w W8 := (hmv.keep.mono (fun k _ h => Or.inl h)).trans (hk.mono (fun k _ e => Or.inr (by omega)))
  exact ⟨hR.keep hk (fun k e hd => by have := hlt k hd; omega), Moved.of (hk0.mono (fun k hk' h => h.resolve_right (by omega))), (hk.block _ (by omega) (by omega)).trans e0, hsl.keep hk (fun k hk' e => by have := hlt k (hso k hk').1; omega)⟩
/-- The message laid into the result. -/
theorem ask_end {D : Nat → Prop} {w W8 : World} {b0 bm N : Nat} {A : CS} {sv : Value} {us : List Value} {cs : Array Value} (hlt : ∀ k, D k → k < w.heap.size) (hR : CliR W8 D b0 bm N A) (hmv : Moved D D w W8)
    (e0 : W8.heap[w.heap.size]? = some (.cells out0 48 (0, 0))) (hsl : SlR W8 sv us) (hso : ∀ k, sv.ownBlock = some k → D k ∧ ¬ CR b0 bm k) :
    CliR (W8.setRow w.heap.size cs) D b0 bm N A ∧ Moved D D w (W8.setRow w.heap.size cs) ∧ (W8.setRow w.heap.size cs).heap[w.heap.size]? = some (.cells cs 48 (0, 0)) ∧ SlR (W8.setRow w.heap.size cs) sv us := by
  have hk : Keep (fun k => k = w.heap.size) W8 (W8.setRow w.heap.size cs) := ⟨rfl, rfl, rfl, by simp, fun k _ hk => setRow_keep W8 _ cs k hk⟩
  have hk0 : Keep (fun k => D k ∨ w.heap.size ≤ k) w (W8.setRow w.heap.size cs) := (hmv.keep.mono (fun k _ h => Or.inl h)).trans (hk.mono (fun k _ e => Or.inr (by omega)))
  exact ⟨hR.keep hk (fun k e hd => by have := hlt k hd; omega), Moved.of (hk0.mono (fun k hk' h => h.resolve_right (by omega))), setRow_heap W8 _ _ cs _ _ e0, hsl.keep hk (fun k hk' e => by have := hlt k (hso k hk').1; omega)⟩
set_option maxHeartbeats 4000000 in
theorem cask_any {D : Nat → Prop} {w : World} {b0 bm N : Nat} {A : CS} (h : CliR w D b0 bm N A) {seq m : Int} {x : Cl} (hs : A.l seq = some (x, m)) (hm : m < 1000000) (hN : N < 1000000) :
    Calls Try.prog 19 #[.pointer (some ⟨b0, 0, none⟩), .int .u64 seq] w (RetAsk D b0 bm N A seq x m w) := by
  obtain ⟨sv, hlk0, hsl, hso, hu, hok, hm0, _⟩ := h.look hs
  have hb1 := below_lit w (.cells out0 48)
  have hb2 := hb1.alloc (by simp) (.cells (opC x sv m) 61)
  have hb3 := hb2.alloc (by simp; omega) (.cells (clC x sv) 35)
  have hb4 := hb3.alloc (by simp; omega) (.cells (msC ⟨16, 0, 0, 0, 0, A.id, seq, 0, 0, [], []⟩ (.slice none 0 0) (.slice none 0 0)) 39)
  obtain ⟨_, _, ⟨c0, -, -, -, c4⟩, -⟩ := (h.below hb1 (Nat.le_refl _)).cell
  have hlk := hlk0 (w.alloc (.cells out0 48)) (hb1.block bm (h.lt _ (h.dr _ (Or.inr rfl))))
  obtain ⟨oa, oc, o3, hoc, hoe⟩ := h.order
  obtain ⟨n, rfl⟩ := Int.eq_ofNat_of_zero_le hm0
  have hol := h.ord
  have hlt : n % A.orders.length < A.orders.length := Nat.mod_lt _ (by omega)
  have hel := hoe (n % A.orders.length) hlt
  have hoeq : oeq A.orders n = A.orders[n % A.orders.length] := by unfold oeq; rw [List.getD_eq_getElem?_getD, List.getElem?_eq_getElem hlt]; rfl
  rw [← hoeq] at hel
  clear hoeq hoe
  have htm : ((n : Int).tmod (A.orders.length : Int)) = ((n % A.orders.length : Nat) : Int) := by rw [Int.tmod_eq_emod_of_nonneg (by omega)]; omega
  obtain ⟨oe, hoe⟩ : ∃ oe, oeq A.orders n = oe := ⟨_, rfl⟩
  rw [hoe] at hel
  have HOe := Lib.hid hoe
  clear hoe
  generalize n % A.orders.length = j at *
  generalize A.orders.length = ol at *
  have hol0 : ¬ (ol = 0) := by omega
  have hwj : IntKind.i64.wrap (j : Int) = j := IntWalk.i64_in _ (by omega)
  have HEl := Lib.hid (And.intro hlt hel)
  clear hlt hel
  have hb0 := h.lt b0 (h.dr _ (Or.inl rfl))
  have hbn1 : ¬ (b0 = w.heap.size) := by omega
  have hbn2 : ¬ (b0 = w.heap.size + 1) := by omega
  have hbn3 : ¬ (b0 = w.heap.size + 2) := by omega
  have hbn4 : ¬ (b0 = w.heap.size + 3) := by omega
  have H := Lib.hid h
  have HS := Lib.hid hs
  have HL0 := Lib.hid hlk0
  have HSl := Lib.hid hsl
  have HSo := Lib.hid hso
  have HOk := Lib.hid hok
  have HB4 := Lib.hid hb4
  obtain ⟨op, sh, sg, pos, body⟩ := x
  obtain ⟨so, sc, rfl, hsc1, hsc2⟩ := hsl.form
  simp only [List.length_map] at *
  clear h hs hlk0 hsl hso hok hb1 hb2 hb3 hb4
  go_enter Try.func19, Try.ntmps19
  go_upto_region 3 with fail
  obtain ⟨W3, HW3⟩ : ∃ x, x = ((w.alloc (.cells out0 48)).alloc (.cells #[.int .i64 op, .int .i64 sh, .int .i64 sg, .int .u64 pos, .slice so body.length sc, .int .i64 n] 61)).alloc (.cells #[.int .i64 op, .int .i64 sh, .int .i64 sg, .int .u64 pos, .slice so body.length sc] 35) := ⟨_, rfl⟩
  rw [← HW3]
  have hb3 : Below w.heap.size w W3 := by rw [HW3]; exact ((below_lit _ _).alloc (by simp) _).alloc (by simp; omega) _
  have hz3 : W3.heap.size = w.heap.size + 3 := by rw [HW3]; simp
  have e0 : W3.heap[w.heap.size]? = some (.cells out0 48 (0, 0)) := by rw [HW3]; exact (Below.heap_alloc _ _ _ (by simp; omega)).trans ((Below.heap_alloc _ _ _ (by simp)).trans (heap_alloc_new w _))
  have e1 : W3.heap[w.heap.size + 1]? = some (.cells (opC ⟨op, sh, sg, pos, body⟩ (.slice so body.length sc) n) 61 (0, 0)) := by
    rw [HW3]
    have := heap_alloc_new (w.alloc (.cells out0 48)) (.cells (opC ⟨op, sh, sg, pos, body⟩ (.slice so body.length sc) n) 61)
    rw [show (w.alloc (.cells out0 48)).heap.size = w.heap.size + 1 by simp] at this
    exact (Below.heap_alloc _ _ _ (by simp)).trans this
  have e2 : W3.heap[w.heap.size + 2]? = some (.cells (clC ⟨op, sh, sg, pos, body⟩ (.slice so body.length sc)) 35 (0, 0)) := by
    rw [HW3]
    have := heap_alloc_new ((w.alloc (.cells out0 48)).alloc (.cells (opC ⟨op, sh, sg, pos, body⟩ (.slice so body.length sc) n) 61)) (.cells (clC ⟨op, sh, sg, pos, body⟩ (.slice so body.length sc)) 35)
    rw [show ((w.alloc (.cells out0 48)).alloc (.cells (opC ⟨op, sh, sg, pos, body⟩ (.slice so body.length sc) n) 61)).heap.size = w.heap.size + 2 by simp] at this
    exact this
  clear HW3 hlk c0 c4 hbn1 hbn2 hbn3 hbn4
  obtain ⟨_, _, ⟨c0, -, -, -, c4⟩, -⟩ := (H.out.below hb3 (Nat.le_refl _)).cell
  have HB3 := Lib.hid hb3
  have HZ3 := Lib.hid hz3
  have HE := Lib.hid (And.intro e0 (And.intro e1 e2))
  clear hb3 e0 e1 e2
  go_upto_region 4 with (first
    | (refine wpList_buildA rfl 39 _ rfl [(0, .int .i64 16), (5, .int .u64 A.id), (6, .int .u64 seq)] rfl (msC ⟨16, 0, 0, 0, 0, A.id, seq, 0, 0, [], []⟩ (.slice none 0 0) (.slice none 0 0)) (by kernel_rfl) ?_)
    | (refine wpList_fill rfl 39 (.tmp 7) (.tmp 22) rfl W3.heap.size rfl (msC ⟨16, 0, 0, 0, 0, A.id, seq, 0, 0, [], []⟩ (.slice none 0 0) (.slice none 0 0)) _ _ rfl rfl (by kernel_rfl) rfl rfl ?_)
    | fail)
  obtain ⟨W4, HW4⟩ : ∃ x, x = W3.alloc (.cells (msC ⟨16, 0, 0, 0, 0, A.id, seq, 0, 0, [], []⟩ (.slice none 0 0) (.slice none 0 0)) 39) := ⟨_, rfl⟩
  rw [← HW4]
  have hb4 : Below w.heap.size w W4 := by rw [HW4]; exact HB3.out.alloc (by omega) _
  have hz4 : W4.heap.size = w.heap.size + 4 := by rw [HW4]; simp; omega
  have e0 : W4.heap[w.heap.size]? = some (.cells out0 48 (0, 0)) := by rw [HW4]; exact (Below.heap_alloc _ _ _ (by omega)).trans HE.out.1
  have e1 : W4.heap[w.heap.size + 1]? = some (.cells (opC ⟨op, sh, sg, pos, body⟩ (.slice so body.length sc) n) 61 (0, 0)) := by rw [HW4]; exact (Below.heap_alloc _ _ _ (by omega)).trans HE.out.2.1
  have e2 : W4.heap[w.heap.size + 2]? = some (.cells (clC ⟨op, sh, sg, pos, body⟩ (.slice so body.length sc)) 35 (0, 0)) := by rw [HW4]; exact (Below.heap_alloc _ _ _ (by omega)).trans HE.out.2.2
  have e3 : W4.heap[w.heap.size + 3]? = some (.cells (msC ⟨16, 0, 0, 0, 0, A.id, seq, 0, 0, [], []⟩ (.slice none 0 0) (.slice none 0 0)) 39 (0, 0)) := by rw [HW4, ← hz3]; exact heap_alloc_new W3 _
  have o3 := hb4.cell (p := ⟨b0, 3, none⟩) hb0 |>.trans o3
  have hel := HEl.out.2
  have hel : W4.cell? (oa.add j) = some (.int .i64 oe) := (hb4.cell (World.block_lt_of_cell? _ _ hel)).trans hel
  have m5 : W4.cell? ⟨w.heap.size + 1, 5, none⟩ = some (.int .i64 n) := World.news_of_block e1 5 _ rfl
  have y5 : W4.frozen? ⟨w.heap.size + 1, 5, none⟩ = false := by simp [World.frozen?, e1]
  have hjl : (j : Int) < (ol : Int) := by have := HEl.out.1; omega
  have HB4 := Lib.hid hb4
  have HZ4 := Lib.hid hz4
  have HE4 := Lib.hid (And.intro e0 (And.intro e1 (And.intro e2 e3)))
  clear hb4 e0 e1 e2 e3 HW4 HE HZ3 HB3 hz3 c0 c4
  go_wp2_with fail
  go_quiet (fail)
  clear o3 hel m5 y5 htm hwj
  obtain ⟨W5, HW5⟩ : ∃ x, x = W4.drewN nq := ⟨_, rfl⟩
  rw [← HW5]
  have hd5 : Below W4.heap.size W4 W5 := by rw [HW5]; exact below_drewN (Below.refl _ _) _
  have hz5 : W5.heap.size = W4.heap.size := by rw [HW5]; rfl
  have e1 := (hd5.block (w.heap.size + 1) (by omega)).trans HE4.out.2.1
  have HHy := Lib.hid HW5
  clear HW5
  have m5 : W5.cell? ⟨w.heap.size + 1, 5, none⟩ = some (.int .i64 n) := World.news_of_block e1 5 _ rfl
  have y5 : W5.frozen? ⟨w.heap.size + 1, 5, none⟩ = false := by simp [World.frozen?, e1]
  have HD5 := Lib.hid hd5
  clear e1 hd5
  go_upto_region 6 with fail
  obtain ⟨W6, HW6⟩ : ∃ x, x = W5.setCell ⟨w.heap.size + 1, 5, none⟩ (.int .i64 (n + 1)) := ⟨_, rfl⟩
  rw [← HW6]
  have hk6 : Keep (fun k => k = w.heap.size + 1) W5 W6 := by rw [HW6]; exact Keep.setCell (S := fun k => k = w.heap.size + 1) (Keep.refl _ _) (p := ⟨w.heap.size + 1, 5, none⟩) (Or.inl rfl) _
  have hb6 : Below w.heap.size w W6 := (HB4.out.trans (HD5.out.mono HB4.out.size)).trans (hk6.below (by omega) (fun k e => by omega))
  have hz6 : W6.heap.size = w.heap.size + 4 := by rw [HW6]; simp; omega
  have e0 := (hk6.block w.heap.size (by omega) (by omega)).trans ((HD5.out.block w.heap.size (by omega)).trans HE4.out.1)
  have e2 := (hk6.block (w.heap.size + 2) (by omega) (by omega)).trans ((HD5.out.block (w.heap.size + 2) (by omega)).trans HE4.out.2.2.1)
  have e3 := (hk6.block (w.heap.size + 3) (by omega) (by omega)).trans ((HD5.out.block (w.heap.size + 3) (by omega)).trans HE4.out.2.2.2)
  have e1 : W6.heap[w.heap.size + 1]? = some (.cells (opC ⟨op, sh, sg, pos, body⟩ (.slice so body.length sc) (n + 1)) 61 (0, 0)) := by
    rw [HW6]
    simpa using heap_setCell_same W5 (w.heap.size + 1) 5 _ _ (.int .i64 (n + 1)) ((HD5.out.block (w.heap.size + 1) (by omega)).trans HE4.out.2.1)
  have hR6 := H.out.below hb6 (Nat.le_refl _)
  have HB6 := Lib.hid hb6
  have HE6 := Lib.hid (And.intro e0 (And.intro e2 e3))
  have HSl6 := Lib.hid (HSl.out.below hb6 (Nat.le_refl _))
  obtain ⟨W7, hrun, hR7, hk7, hg7⟩ := CliR.store (w := W6.drew) (m := (n : Int) + 1) (hR6.below (Below.refl _ _).drew (Nat.le_refl _)) hu (HSl6.out.below (Below.refl _ _).drew (Nat.le_refl _)) HSo.out HOk.out (by omega) hN
  have HR7 := Lib.hid hR7
  have HK7 := Lib.hid hk7
  have HG7 := Lib.hid hg7
  obtain ⟨_, _, ⟨-, -, -, -, c4⟩, -⟩ := hR6.cell
  have q0 : W6.cell? ⟨w.heap.size + 1, 0, none⟩ = some (.int .i64 op) := World.news_of_block e1 0 _ rfl
  have q1 : W6.cell? ⟨w.heap.size + 1, 1, none⟩ = some (.int .i64 sh) := World.news_of_block e1 1 _ rfl
  have q2 : W6.cell? ⟨w.heap.size + 1, 2, none⟩ = some (.int .i64 sg) := World.news_of_block e1 2 _ rfl
  have q3 : W6.cell? ⟨w.heap.size + 1, 3, none⟩ = some (.int .u64 pos) := World.news_of_block e1 3 _ rfl
  have q4 : W6.cell? ⟨w.heap.size + 1, 4, none⟩ = some (.slice so body.length sc) := World.news_of_block e1 4 _ rfl
  have q5 : W6.cell? ⟨w.heap.size + 1, 5, none⟩ = some (.int .i64 (n + 1)) := World.news_of_block e1 5 _ rfl
  have HQ := Lib.hid e1
  have hbm := H.out.lt bm (H.out.dr _ (Or.inr rfl))
  have hne := H.out.ne
  have r4 := hg7.cell (a := ⟨b0, 4, none⟩) c4 (by simp; omega)
  have r0 := hg7.cell (a := ⟨w.heap.size + 1, 0, none⟩) q0 (by simp; omega)
  have r1 := hg7.cell (a := ⟨w.heap.size + 1, 1, none⟩) q1 (by simp; omega)
  have r2 := hg7.cell (a := ⟨w.heap.size + 1, 2, none⟩) q2 (by simp; omega)
  have r3 := hg7.cell (a := ⟨w.heap.size + 1, 3, none⟩) q3 (by simp; omega)
  have r5 := hg7.cell (a := ⟨w.heap.size + 1, 4, none⟩) q4 (by simp; omega)
  have r6 := hg7.cell (a := ⟨w.heap.size + 1, 5, none⟩) q5 (by simp; omega)
  have HR6 := Lib.hid hR6
  clear hR6
  clear e0 e1 e2 e3 hb6 hR7 hk7 hg7 HW6 hk6 m5 y5 hz4 hz5 hjl HE4 HB4 HZ4 HD5 HHy
  go_region_held3 (fun w' => w'.cell? ⟨b0, 4, none⟩ = some (.map (some bm)) ∧ w'.cell? ⟨w.heap.size + 1, 0, none⟩ = some (.int .i64 op) ∧ w'.cell? ⟨w.heap.size + 1, 1, none⟩ = some (.int .i64 sh) ∧ w'.cell? ⟨w.heap.size + 1, 2, none⟩ = some (.int .i64 sg) ∧ w'.cell? ⟨w.heap.size + 1, 3, none⟩ = some (.int .u64 pos) ∧ w'.cell? ⟨w.heap.size + 1, 4, none⟩ = some (.slice so body.length sc) ∧ w'.cell? ⟨w.heap.size + 1, 5, none⟩ = some (.int .i64 (n + 1))) (first | go_keep)
      (first | fail)
  clear r0 r1 r2 r3 r4 r5 r6 q0 q1 q2 q3 q4 q5 c4 hrun
  have hs7 := HK7.out.size
  have hs7 : w.heap.size + 4 ≤ W7.heap.size := by simp at hs7; omega
  have e0 := (HK7.out.block w.heap.size (by simp; omega) (by omega)).trans (show W6.drew.heap[w.heap.size]? = _ from HE6.out.1)
  have e2 := (HK7.out.block (w.heap.size + 2) (by simp; omega) (by omega)).trans (show W6.drew.heap[w.heap.size + 2]? = _ from HE6.out.2.1)
  have e3 := (HK7.out.block (w.heap.size + 3) (by simp; omega) (by omega)).trans (show W6.drew.heap[w.heap.size + 3]? = _ from HE6.out.2.2)
  have hmv : Moved D D w W7 := Moved.of (((Below.keep0 D HB6.out).drew).trans (HK7.out.mono (fun k _ e => by subst e; exact H.out.dr _ (Or.inr rfl))))
  have hsl7 : SlR W7 (.slice so body.length sc) (u8s body) := (HSl6.out.below (Below.refl _ _).drew (Nat.le_refl _)).keep HK7.out (fun k hk e => (HSo.out k hk).2 (Or.inr e))
  have HMv := Lib.hid hmv
  have HSl7 := Lib.hid hsl7
  have d0 : W7.cell? ⟨w.heap.size + 2, 0, none⟩ = some (.int .i64 op) := World.news_of_block e2 0 _ rfl
  have d1 : W7.cell? ⟨w.heap.size + 2, 1, none⟩ = some (.int .i64 sh) := World.news_of_block e2 1 _ rfl
  have d2 : W7.cell? ⟨w.heap.size + 2, 2, none⟩ = some (.int .i64 sg) := World.news_of_block e2 2 _ rfl
  have d3 : W7.cell? ⟨w.heap.size + 2, 3, none⟩ = some (.int .u64 pos) := World.news_of_block e2 3 _ rfl
  have d4 : W7.cell? ⟨w.heap.size + 2, 4, none⟩ = some (.slice so body.length sc) := World.news_of_block e2 4 _ rfl
  have f0 : W7.cell? ⟨w.heap.size + 3, 0, none⟩ = some (.int .i64 16) := World.news_of_block e3 0 _ rfl
  have f3 : W7.cell? ⟨w.heap.size + 3, 3, none⟩ = some (.int .i64 0) := World.news_of_block e3 3 _ rfl
  have f4 : W7.cell? ⟨w.heap.size + 3, 4, none⟩ = some (.int .i64 0) := World.news_of_block e3 4 _ rfl
  have f7 : W7.cell? ⟨w.heap.size + 3, 7, none⟩ = some (.int .u64 0) := World.news_of_block e3 7 _ rfl
  have f8 : W7.cell? ⟨w.heap.size + 3, 8, none⟩ = some (.int .i64 0) := World.news_of_block e3 8 _ rfl
  have f10 : W7.cell? ⟨w.heap.size + 3, 10, none⟩ = some (.slice none 0 0) := World.news_of_block e3 10 _ rfl
  have y0 : W7.frozen? ⟨w.heap.size + 3, 0, none⟩ = false := by simp [World.frozen?, e3]
  have y3 : W7.frozen? ⟨w.heap.size + 3, 3, none⟩ = false := by simp [World.frozen?, e3]
  have y4 : W7.frozen? ⟨w.heap.size + 3, 4, none⟩ = false := by simp [World.frozen?, e3]
  have y7 : W7.frozen? ⟨w.heap.size + 3, 7, none⟩ = false := by simp [World.frozen?, e3]
  have y8 : W7.frozen? ⟨w.heap.size + 3, 8, none⟩ = false := by simp [World.frozen?, e3]
  have y10 : W7.frozen? ⟨w.heap.size + 3, 10, none⟩ = false := by simp [World.frozen?, e3]
  have HE0 := Lib.hid e0
  have HE3 := Lib.hid e3
  have HE2 := Lib.hid e2
  clear e0 e2 e3 hmv hsl7 HE6 HB6 HQ HR6 HG7 HSl6 HL0 HSl
  have hop : op = 1 ∨ op = 2 ∨ op = 3 ∨ op = 4 ∨ op = 5 := by have := HOk.out.op; simp only at this; omega
  rcases hop with rfl | rfl | rfl | rfl | rfl
  · skip
    have hth := HOk.out.there (show (1 : Int) ≤ 2 by omega)
    obtain ⟨sn, rfl⟩ := Int.eq_ofNat_of_zero_le HOk.out.sh.1
    obtain ⟨gn, rfl⟩ := Int.eq_ofNat_of_zero_le HOk.out.sg.1
    obtain ⟨tt, htt, sA, rA, L, cL, rl, rc, hL, hrl, g2, grow, gel⟩ := shRow HR7.out (A' := A) rfl hth
    have HTt := Lib.hid htt
    clear htt hth
    go_wp2_with fail
    go_quiet (fail)
    clear g2 grow gel
    go_wp2_with fail
    go_region_held3 (fun w' => w'.cell? ⟨w.heap.size + 2, 3, none⟩ = some (.int .u64 pos)) (first | go_keep) (first | fail)
    go_wp2_with fail
    go_region_held3 (fun w' => w'.cell? ⟨w.heap.size + 2, 1, none⟩ = some (.int .i64 sn) ∧ w'.cell? ⟨w.heap.size + 2, 2, none⟩ = some (.int .i64 gn) ∧ w'.cell? ⟨w.heap.size + 2, 4, none⟩ = some (.slice so body.length sc)) (first | go_keep) (first | fail)
    obtain ⟨W8, HW8⟩ : ∃ x, x = (((((((W7.drewN (nq + 1)).setCell ⟨w.heap.size + 3, 0, none⟩ (.int .i64 14)).setCell ⟨w.heap.size + 3, 7, none⟩ (.int .u64 pos)).setCell ⟨w.heap.size + 3, 0, none⟩ (.int .i64 1)).setCell ⟨w.heap.size + 3, 3, none⟩ (.int .i64 sn)).setCell ⟨w.heap.size + 3, 4, none⟩ (.int .i64 gn)).setCell ⟨w.heap.size + 3, 10, none⟩ (.slice so body.length sc)).drew := ⟨_, rfl⟩
    rw [← HW8]
    have hk8 : Keep (fun k => k = w.heap.size + 3) W7 W8 := by rw [HW8]; exact (Keep.setCell (S := fun k => k = w.heap.size + 3) (Keep.setCell (S := fun k => k = w.heap.size + 3) (Keep.setCell (S := fun k => k = w.heap.size + 3) (Keep.setCell (S := fun k => k = w.heap.size + 3) (Keep.setCell (S := fun k => k = w.heap.size + 3) (Keep.setCell (S := fun k => k = w.heap.size + 3) ((Keep.refl (fun k => k = w.heap.size + 3) W7).drewN (nq + 1)) (p := ⟨w.heap.size + 3, 0, none⟩) (Or.inl rfl) _) (p := ⟨w.heap.size + 3, 7, none⟩) (Or.inl rfl) _) (p := ⟨w.heap.size + 3, 0, none⟩) (Or.inl rfl) _) (p := ⟨w.heap.size + 3, 3, none⟩) (Or.inl rfl) _) (p := ⟨w.heap.size + 3, 4, none⟩) (Or.inl rfl) _) (p := ⟨w.heap.size + 3, 10, none⟩) (Or.inl rfl) _).drew
    have e8 : W8.heap[w.heap.size + 3]? = some (.cells (msC ⟨1, 0, 0, sn, gn, A.id, seq, pos, 0, [], body⟩ (.slice none 0 0) (.slice so body.length sc)) 39 (0, 0)) := by
      rw [HW8]
      have h1 := heap_setCell_same _ (w.heap.size + 3) 0 _ _ (.int .i64 14) (show (W7.drewN (nq + 1)).heap[w.heap.size + 3]? = _ from HE3.out)
      have h2 := heap_setCell_same _ (w.heap.size + 3) 7 _ _ (.int .u64 pos) h1
      have h3 := heap_setCell_same _ (w.heap.size + 3) 0 _ _ (.int .i64 1) h2
      have h4 := heap_setCell_same _ (w.heap.size + 3) 3 _ _ (.int .i64 sn) h3
      have h5 := heap_setCell_same _ (w.heap.size + 3) 4 _ _ (.int .i64 gn) h4
      have h6 := heap_setCell_same _ (w.heap.size + 3) 10 _ _ (.slice so body.length sc) h5
      simp at h6
      exact h6
    have hto : askTo A ⟨1, (sn : Int), (gn : Int), pos, body⟩ (n : Int) = tt := HTt.out
    obtain ⟨hR8, hmv8, e80, hsl8⟩ := ask_set H.out.lt hs7 hk8 HR7.out HMv.out HE0.out HSl7.out HSo.out
    have HTo := Lib.hid hto
    have HR8 := Lib.hid hR8
    have HMv8 := Lib.hid hmv8
    have HSl8 := Lib.hid hsl8
    have HE8 := Lib.hid e8
    have HE80 := Lib.hid e80
    clear hto hR8 hmv8 hsl8 e8 e80 hk8 HW8 d0 d1 d2 d3 d4 f0 f3 f4 f7 f8 f10 y0 y3 y4 y7 y8 y10
    go_wp2_with (first | (refine stopLoad 39 rfl ?_) | fail)
    refine ⟨?_⟩
    refine wpList_loadRow rfl 39 (.tmp 7) rfl (w.heap.size + 3) _ 39 HE8.out rfl _ Try.underlying39 rfl (by kernel_rfl) ?_
    refine wpList_buildA rfl 48 _ rfl (outC tt ⟨1, 0, 0, sn, gn, A.id, seq, pos, 0, [], body⟩ (.slice none 0 0) (.slice so body.length sc)) (by kernel_rfl) ?_
    refine wpList_store_row rfl 48 (.tmp 4) (.tmp 104) rfl w.heap.size (outC tt ⟨1, 0, 0, sn, gn, A.id, seq, pos, 0, [], body⟩ (.slice none 0 0) (.slice so body.length sc)) (by kernel_rfl) (by kernel_rfl) 48 _ HE80.out (by kernel_rfl) rfl (by kernel_rfl) ?_
    go_wp2_with fail
    obtain ⟨hR9, hmv9, e9, hsl9⟩ := ask_end (cs := outC tt ⟨1, 0, 0, sn, gn, A.id, seq, pos, 0, [], body⟩ (.slice none 0 0) (.slice so body.length sc)) H.out.lt HR8.out HMv8.out HE80.out HSl8.out HSo.out
    refine bodyPost_cell rfl w.heap.size rfl e9 Try.underlying48 rfl (by kernel_rfl) rfl ?_
    exact ⟨.slice so body.length sc, by rw [HTo.out]; rfl, hR9, hmv9, hsl9, HSo.out⟩
  · skip
    have hth := HOk.out.there (show (2 : Int) ≤ 2 by omega)
    obtain ⟨sn, rfl⟩ := Int.eq_ofNat_of_zero_le HOk.out.sh.1
    obtain ⟨gn, rfl⟩ := Int.eq_ofNat_of_zero_le HOk.out.sg.1
    obtain ⟨tt, htt, sA, rA, L, cL, rl, rc, hL, hrl, g2, grow, gel⟩ := shRow HR7.out (A' := A) rfl hth
    have HTt := Lib.hid htt
    clear htt hth
    go_wp2_with fail
    go_quiet (fail)
    clear g2 grow gel
    go_wp2_with fail
    go_region_held3 (fun w' => w'.cell? ⟨w.heap.size + 2, 3, none⟩ = some (.int .u64 pos)) (first | go_keep) (first | fail)
    obtain ⟨W8, HW8⟩ : ∃ x, x = (((W7.drewN (nq + 1)).setCell ⟨w.heap.size + 3, 0, none⟩ (.int .i64 14)).setCell ⟨w.heap.size + 3, 7, none⟩ (.int .u64 pos)) := ⟨_, rfl⟩
    rw [← HW8]
    have hk8 : Keep (fun k => k = w.heap.size + 3) W7 W8 := by rw [HW8]; exact (Keep.setCell (S := fun k => k = w.heap.size + 3) (Keep.setCell (S := fun k => k = w.heap.size + 3) ((Keep.refl (fun k => k = w.heap.size + 3) W7).drewN (nq + 1)) (p := ⟨w.heap.size + 3, 0, none⟩) (Or.inl rfl) _) (p := ⟨w.heap.size + 3, 7, none⟩) (Or.inl rfl) _)
    have e8 : W8.heap[w.heap.size + 3]? = some (.cells (msC ⟨14, 0, 0, 0, 0, A.id, seq, pos, 0, [], []⟩ (.slice none 0 0) (.slice none 0 0)) 39 (0, 0)) := by
      rw [HW8]
      have h1 := heap_setCell_same _ (w.heap.size + 3) 0 _ _ (.int .i64 14) (show (W7.drewN (nq + 1)).heap[w.heap.size + 3]? = _ from HE3.out)
      have h2 := heap_setCell_same _ (w.heap.size + 3) 7 _ _ (.int .u64 pos) h1
      simp at h2
      exact h2
    have hto : askTo A ⟨2, (sn : Int), (gn : Int), pos, body⟩ (n : Int) = tt := HTt.out
    obtain ⟨hR8, hmv8, e80, hsl8⟩ := ask_set H.out.lt hs7 hk8 HR7.out HMv.out HE0.out HSl7.out HSo.out
    have HTo := Lib.hid hto
    have HR8 := Lib.hid hR8
    have HMv8 := Lib.hid hmv8
    have HSl8 := Lib.hid hsl8
    have HE8 := Lib.hid e8
    have HE80 := Lib.hid e80
    have c0 : W8.cell? ⟨w.heap.size + 2, 0, none⟩ = some (.int .i64 2) := World.news_of_block ((hk8.block (w.heap.size + 2) (by omega) (by omega)).trans HE2.out) 0 _ rfl
    clear hto hR8 hmv8 hsl8 e8 e80 hk8 HW8 d0 d1 d2 d3 d4 f0 f3 f4 f7 f8 f10 y0 y3 y4 y7 y8 y10
    go_wp2_with (first | (refine stopLoad 39 rfl ?_) | fail)
    refine ⟨?_⟩
    refine wpList_loadRow rfl 39 (.tmp 7) rfl (w.heap.size + 3) _ 39 HE8.out rfl _ Try.underlying39 rfl (by kernel_rfl) ?_
    refine wpList_buildA rfl 48 _ rfl (outC tt ⟨14, 0, 0, 0, 0, A.id, seq, pos, 0, [], []⟩ (.slice none 0 0) (.slice none 0 0)) (by kernel_rfl) ?_
    refine wpList_store_row rfl 48 (.tmp 4) (.tmp 104) rfl w.heap.size (outC tt ⟨14, 0, 0, 0, 0, A.id, seq, pos, 0, [], []⟩ (.slice none 0 0) (.slice none 0 0)) (by kernel_rfl) (by kernel_rfl) 48 _ HE80.out (by kernel_rfl) rfl (by kernel_rfl) ?_
    go_wp2_with fail
    obtain ⟨hR9, hmv9, e9, hsl9⟩ := ask_end (cs := outC tt ⟨14, 0, 0, 0, 0, A.id, seq, pos, 0, [], []⟩ (.slice none 0 0) (.slice none 0 0)) H.out.lt HR8.out HMv8.out HE80.out HSl8.out HSo.out
    refine bodyPost_cell rfl w.heap.size rfl e9 Try.underlying48 rfl (by kernel_rfl) rfl ?_
    exact ⟨.slice none 0 0, by rw [HTo.out]; rfl, hR9, hmv9, SlR.nil _, fun k hk => by cases hk⟩
  · skip
    go_wp2_with fail
    go_region_held3 (fun w' => w'.cell? ⟨w.heap.size + 2, 1, none⟩ = some (.int .i64 sh) ∧ w'.cell? ⟨w.heap.size + 2, 2, none⟩ = some (.int .i64 sg)) (first | go_keep) (first | fail)
    obtain ⟨W8, HW8⟩ : ∃ x, x = (((W7.setCell ⟨w.heap.size + 3, 8, none⟩ (.int .i64 1)).setCell ⟨w.heap.size + 3, 3, none⟩ (.int .i64 sh)).setCell ⟨w.heap.size + 3, 4, none⟩ (.int .i64 sg)).drew := ⟨_, rfl⟩
    rw [← HW8]
    have hk8 : Keep (fun k => k = w.heap.size + 3) W7 W8 := by rw [HW8]; exact (Keep.setCell (S := fun k => k = w.heap.size + 3) (Keep.setCell (S := fun k => k = w.heap.size + 3) (Keep.setCell (S := fun k => k = w.heap.size + 3) (Keep.refl (fun k => k = w.heap.size + 3) W7) (p := ⟨w.heap.size + 3, 8, none⟩) (Or.inl rfl) _) (p := ⟨w.heap.size + 3, 3, none⟩) (Or.inl rfl) _) (p := ⟨w.heap.size + 3, 4, none⟩) (Or.inl rfl) _).drew
    have e8 : W8.heap[w.heap.size + 3]? = some (.cells (msC ⟨16, 0, 0, sh, sg, A.id, seq, 0, 1, [], []⟩ (.slice none 0 0) (.slice none 0 0)) 39 (0, 0)) := by
      rw [HW8]
      have h1 := heap_setCell_same _ (w.heap.size + 3) 8 _ _ (.int .i64 1) (show W7.heap[w.heap.size + 3]? = _ from HE3.out)
      have h2 := heap_setCell_same _ (w.heap.size + 3) 3 _ _ (.int .i64 sh) h1
      have h3 := heap_setCell_same _ (w.heap.size + 3) 4 _ _ (.int .i64 sg) h2
      simp at h3
      exact h3
    have hto : askTo A ⟨3, sh, sg, pos, body⟩ (n : Int) = oe := HOe.out
    obtain ⟨hR8, hmv8, e80, hsl8⟩ := ask_set H.out.lt hs7 hk8 HR7.out HMv.out HE0.out HSl7.out HSo.out
    have HTo := Lib.hid hto
    have HR8 := Lib.hid hR8
    have HMv8 := Lib.hid hmv8
    have HSl8 := Lib.hid hsl8
    have HE8 := Lib.hid e8
    have HE80 := Lib.hid e80
    clear hto hR8 hmv8 hsl8 e8 e80 hk8 HW8 d0 d1 d2 d3 d4 f0 f3 f4 f7 f8 f10 y0 y3 y4 y7 y8 y10
    go_wp2_with (first | (refine stopLoad 39 rfl ?_) | fail)
    refine ⟨?_⟩
    refine wpList_loadRow rfl 39 (.tmp 7) rfl (w.heap.size + 3) _ 39 HE8.out rfl _ Try.underlying39 rfl (by kernel_rfl) ?_
    refine wpList_buildA rfl 48 _ rfl (outC oe ⟨16, 0, 0, sh, sg, A.id, seq, 0, 1, [], []⟩ (.slice none 0 0) (.slice none 0 0)) (by kernel_rfl) ?_
    refine wpList_store_row rfl 48 (.tmp 4) (.tmp 104) rfl w.heap.size (outC oe ⟨16, 0, 0, sh, sg, A.id, seq, 0, 1, [], []⟩ (.slice none 0 0) (.slice none 0 0)) (by kernel_rfl) (by kernel_rfl) 48 _ HE80.out (by kernel_rfl) rfl (by kernel_rfl) ?_
    go_wp2_with fail
    obtain ⟨hR9, hmv9, e9, hsl9⟩ := ask_end (cs := outC oe ⟨16, 0, 0, sh, sg, A.id, seq, 0, 1, [], []⟩ (.slice none 0 0) (.slice none 0 0)) H.out.lt HR8.out HMv8.out HE80.out HSl8.out HSo.out
    refine bodyPost_cell rfl w.heap.size rfl e9 Try.underlying48 rfl (by kernel_rfl) rfl ?_
    exact ⟨.slice none 0 0, by rw [HTo.out]; rfl, hR9, hmv9, SlR.nil _, fun k hk => by cases hk⟩
  · skip
    go_wp2_with fail
    go_region_held3 (fun w' => w'.cell? ⟨w.heap.size + 2, 1, none⟩ = some (.int .i64 sh)) (first | go_keep) (first | fail)
    obtain ⟨W8, HW8⟩ : ∃ x, x = ((W7.setCell ⟨w.heap.size + 3, 8, none⟩ (.int .i64 2)).setCell ⟨w.heap.size + 3, 3, none⟩ (.int .i64 sh)).drew := ⟨_, rfl⟩
    rw [← HW8]
    have hk8 : Keep (fun k => k = w.heap.size + 3) W7 W8 := by rw [HW8]; exact (Keep.setCell (S := fun k => k = w.heap.size + 3) (Keep.setCell (S := fun k => k = w.heap.size + 3) (Keep.refl (fun k => k = w.heap.size + 3) W7) (p := ⟨w.heap.size + 3, 8, none⟩) (Or.inl rfl) _) (p := ⟨w.heap.size + 3, 3, none⟩) (Or.inl rfl) _).drew
    have e8 : W8.heap[w.heap.size + 3]? = some (.cells (msC ⟨16, 0, 0, sh, 0, A.id, seq, 0, 2, [], []⟩ (.slice none 0 0) (.slice none 0 0)) 39 (0, 0)) := by
      rw [HW8]
      have h1 := heap_setCell_same _ (w.heap.size + 3) 8 _ _ (.int .i64 2) (show W7.heap[w.heap.size + 3]? = _ from HE3.out)
      have h2 := heap_setCell_same _ (w.heap.size + 3) 3 _ _ (.int .i64 sh) h1
      simp at h2
      exact h2
    have hto : askTo A ⟨4, sh, sg, pos, body⟩ (n : Int) = oe := HOe.out
    obtain ⟨hR8, hmv8, e80, hsl8⟩ := ask_set H.out.lt hs7 hk8 HR7.out HMv.out HE0.out HSl7.out HSo.out
    have HTo := Lib.hid hto
    have HR8 := Lib.hid hR8
    have HMv8 := Lib.hid hmv8
    have HSl8 := Lib.hid hsl8
    have HE8 := Lib.hid e8
    have HE80 := Lib.hid e80
    clear hto hR8 hmv8 hsl8 e8 e80 hk8 HW8 d0 d1 d2 d3 d4 f0 f3 f4 f7 f8 f10 y0 y3 y4 y7 y8 y10
    go_wp2_with (first | (refine stopLoad 39 rfl ?_) | fail)
    refine ⟨?_⟩
    refine wpList_loadRow rfl 39 (.tmp 7) rfl (w.heap.size + 3) _ 39 HE8.out rfl _ Try.underlying39 rfl (by kernel_rfl) ?_
    refine wpList_buildA rfl 48 _ rfl (outC oe ⟨16, 0, 0, sh, 0, A.id, seq, 0, 2, [], []⟩ (.slice none 0 0) (.slice none 0 0)) (by kernel_rfl) ?_
    refine wpList_store_row rfl 48 (.tmp 4) (.tmp 104) rfl w.heap.size (outC oe ⟨16, 0, 0, sh, 0, A.id, seq, 0, 2, [], []⟩ (.slice none 0 0) (.slice none 0 0)) (by kernel_rfl) (by kernel_rfl) 48 _ HE80.out (by kernel_rfl) rfl (by kernel_rfl) ?_
    go_wp2_with fail
    obtain ⟨hR9, hmv9, e9, hsl9⟩ := ask_end (cs := outC oe ⟨16, 0, 0, sh, 0, A.id, seq, 0, 2, [], []⟩ (.slice none 0 0) (.slice none 0 0)) H.out.lt HR8.out HMv8.out HE80.out HSl8.out HSo.out
    refine bodyPost_cell rfl w.heap.size rfl e9 Try.underlying48 rfl (by kernel_rfl) rfl ?_
    exact ⟨.slice none 0 0, by rw [HTo.out]; rfl, hR9, hmv9, SlR.nil _, fun k hk => by cases hk⟩
  · skip
    go_wp2_with fail
    go_region_held3 (fun w' => w'.cell? ⟨w.heap.size + 2, 3, none⟩ = some (.int .u64 pos)) (first | go_keep) (first | fail)
    obtain ⟨W8, HW8⟩ : ∃ x, x = ((W7.setCell ⟨w.heap.size + 3, 8, none⟩ (.int .i64 3)).setCell ⟨w.heap.size + 3, 7, none⟩ (.int .u64 pos)).drew := ⟨_, rfl⟩
    rw [← HW8]
    have hk8 : Keep (fun k => k = w.heap.size + 3) W7 W8 := by rw [HW8]; exact (Keep.setCell (S := fun k => k = w.heap.size + 3) (Keep.setCell (S := fun k => k = w.heap.size + 3) (Keep.refl (fun k => k = w.heap.size + 3) W7) (p := ⟨w.heap.size + 3, 8, none⟩) (Or.inl rfl) _) (p := ⟨w.heap.size + 3, 7, none⟩) (Or.inl rfl) _).drew
    have e8 : W8.heap[w.heap.size + 3]? = some (.cells (msC ⟨16, 0, 0, 0, 0, A.id, seq, pos, 3, [], []⟩ (.slice none 0 0) (.slice none 0 0)) 39 (0, 0)) := by
      rw [HW8]
      have h1 := heap_setCell_same _ (w.heap.size + 3) 8 _ _ (.int .i64 3) (show W7.heap[w.heap.size + 3]? = _ from HE3.out)
      have h2 := heap_setCell_same _ (w.heap.size + 3) 7 _ _ (.int .u64 pos) h1
      simp at h2
      exact h2
    have hto : askTo A ⟨5, sh, sg, pos, body⟩ (n : Int) = oe := HOe.out
    obtain ⟨hR8, hmv8, e80, hsl8⟩ := ask_set H.out.lt hs7 hk8 HR7.out HMv.out HE0.out HSl7.out HSo.out
    have HTo := Lib.hid hto
    have HR8 := Lib.hid hR8
    have HMv8 := Lib.hid hmv8
    have HSl8 := Lib.hid hsl8
    have HE8 := Lib.hid e8
    have HE80 := Lib.hid e80
    clear hto hR8 hmv8 hsl8 e8 e80 hk8 HW8 d0 d1 d2 d3 d4 f0 f3 f4 f7 f8 f10 y0 y3 y4 y7 y8 y10
    go_wp2_with (first | (refine stopLoad 39 rfl ?_) | fail)
    refine ⟨?_⟩
    refine wpList_loadRow rfl 39 (.tmp 7) rfl (w.heap.size + 3) _ 39 HE8.out rfl _ Try.underlying39 rfl (by kernel_rfl) ?_
    refine wpList_buildA rfl 48 _ rfl (outC oe ⟨16, 0, 0, 0, 0, A.id, seq, pos, 3, [], []⟩ (.slice none 0 0) (.slice none 0 0)) (by kernel_rfl) ?_
    refine wpList_store_row rfl 48 (.tmp 4) (.tmp 104) rfl w.heap.size (outC oe ⟨16, 0, 0, 0, 0, A.id, seq, pos, 3, [], []⟩ (.slice none 0 0) (.slice none 0 0)) (by kernel_rfl) (by kernel_rfl) 48 _ HE80.out (by kernel_rfl) rfl (by kernel_rfl) ?_
    go_wp2_with fail
    obtain ⟨hR9, hmv9, e9, hsl9⟩ := ask_end (cs := outC oe ⟨16, 0, 0, 0, 0, A.id, seq, pos, 3, [], []⟩ (.slice none 0 0) (.slice none 0 0)) H.out.lt HR8.out HMv8.out HE80.out HSl8.out HSo.out
    refine bodyPost_cell rfl w.heap.size rfl e9 Try.underlying48 rfl (by kernel_rfl) rfl ?_
    exact ⟨.slice none 0 0, by rw [HTo.out]; rfl, hR9, hmv9, SlR.nil _, fun k hk => by cases hk⟩
end Go.Proofs.Ytdmfladjhjpafaa
