/-
  FoldGrows: a state beside what it told once.
-/
import Derived.Test.YtabanackdjlcmaaFErrT
namespace Go.Proofs.Ytabanackdjlcmaa
open Go.ChangeShapes Go.WideShapes Go.ChangeAt Go.RowKit Go.Maps
set_option maxRecDepth 100000

/-- What a later state keeps of an earlier one. -/
structure Grow (F G : FS) : Prop where
  l : F.l <+: G.l
  n : F.n ≤ G.n
  low : F.low ≤ G.low
  sh : ∀ a s, F.sh a = some s → ∃ t, G.sh a = some t ∧ t.segs = s.segs ∧ leB s.lens t.lens = true ∧ (s.fin = true → t.fin = true ∧ t.lens = s.lens)
theorem leB_refl (xs : List Int) : leB xs xs = true := le_iff.2 (fun _ => Int.le_refl _)
theorem leB_trans {a b c : List Int} (h : leB a b = true) (k : leB b c = true) : leB a c = true := le_iff.2 (fun i => Int.le_trans (le_iff.1 h i) (le_iff.1 k i))
theorem Grow.refl (F : FS) : Grow F F := ⟨List.prefix_refl _, Int.le_refl _, Int.le_refl _, fun _ s h => ⟨s, h, rfl, leB_refl _, fun h => ⟨h, rfl⟩⟩⟩
theorem Grow.trans {F G H : FS} (h : Grow F G) (k : Grow G H) : Grow F H := by
  refine ⟨h.l.trans k.l, Int.le_trans h.n k.n, Int.le_trans h.low k.low, fun a s hs => ?_⟩
  obtain ⟨t, t1, t2, t3, t4⟩ := h.sh a s hs
  obtain ⟨u, u1, u2, u3, u4⟩ := k.sh a t t1
  refine ⟨u, u1, u2.trans t2, leB_trans t3 u3, fun hf => ?_⟩
  obtain ⟨x1, x2⟩ := t4 hf
  obtain ⟨y1, y2⟩ := u4 x1
  exact ⟨y1, y2.trans x2⟩
theorem rowsE_all {F : FS} {rs : Rw} (h : rowsE F rs = 0) : ∀ r ∈ rs, rowE F r = 0 := by
  induction rs with
  | nil => simp
  | cons x rs ih =>
    have h' : (if rowE F x = 0 then rowsE F rs else rowE F x) = 0 := h
    by_cases hx : rowE F x = 0
    · rw [if_pos hx] at h'
      intro r hr
      rcases List.mem_cons.1 hr with rfl | hr
      · exact hx
      · exact ih h' r hr
    · rw [if_neg hx] at h'; exact absurd h' hx
theorem rowsSp_many (F : FS) (rs : Rw) : ∀ s ∈ rowsSp F rs, 0 < s.many := by
  intro s hs
  unfold rowsSp at hs
  obtain ⟨r, _, hr⟩ := List.mem_flatMap.1 hs
  unfold rowSp newSp at hr
  obtain ⟨i, _, hi⟩ := List.mem_flatMap.1 hr
  split at hi
  · simp at hi; subst hi; simp only; omega
  · simp at hi
theorem cutE_rows {F : FS} {rs : Rw} (h : cutE F rs = 0) : rowsE F rs = 0 := by
  unfold cutE at h
  split at h
  · assumption
  · exact h
theorem cut_grow {F : FS} {rs : Rw} (h : cutE F rs = 0) : Grow F (cutF F rs) := by
  have hr := rowsE_all (cutE_rows h)
  refine ⟨List.prefix_append _ _, ?_, Int.le_refl _, fun a s hs => ?_⟩
  · show F.n ≤ F.n + sumI (manyOf (rowsSp F rs))
    have := sumI_pos (rowsSp_many F rs)
    omega
  · show ∃ t, lenS F rs a = some t ∧ _
    unfold lenS
    cases hf : rs.find? (fun r => r.1 == a) with
    | none => exact ⟨s, hs, rfl, leB_refl _, fun h => ⟨h, rfl⟩⟩
    | some r =>
      have hra : r.1 = a := by have := List.find?_some hf; simpa using this
      have he := hr r (List.mem_of_find?_eq_some hf)
      unfold rowE at he
      rw [hra, hs] at he
      simp only at he
      split at he
      · exact absurd he (by decide)
      · rename_i hfin
        split at he
        · exact absurd he (by decide)
        · rename_i hle
          have hle2 : leB s.lens r.2 = true := by
            cases e : leB s.lens r.2
            · exact absurd (Or.inr e) hle
            · rfl
          refine ⟨{ s with lens := cutI r.2 }, by simp [hs], rfl, le_iff.2 (fun i => by rw [atI_cut]; exact le_iff.1 hle2 i), fun h => absurd h hfin⟩
theorem seal_grow {F : FS} {id : Int} {rs : Rw} (h : sealE F id rs = 0) : Grow F (sealF F id rs) := by
  unfold sealE at h
  by_cases hl : liveE F id = 0
  · rw [if_pos hl] at h
    have hc := cut_grow h
    refine ⟨hc.l, hc.n, hc.low, fun a s hs => ?_⟩
    obtain ⟨t, t1, t2, t3, t4⟩ := hc.sh a s hs
    show ∃ t, (if a = id then ((cutF F rs).sh id).map (fun s => { s with fin := true }) else (cutF F rs).sh a) = some t ∧ _
    by_cases ha : a = id
    · subst ha
      rw [if_pos rfl, t1]
      refine ⟨{ t with fin := true }, rfl, t2, t3, fun hf => ?_⟩
      unfold liveE at hl
      rw [hs] at hl
      simp only at hl
      rw [if_pos hf] at hl
      exact absurd hl (by decide)
    · rw [if_neg ha]
      exact ⟨t, t1, t2, t3, t4⟩
  · rw [if_neg hl] at h; exact absurd h hl
theorem doF_grow (F : FS) (c : Cm) : Grow F (doF F c) := by
  unfold doF
  split
  · unfold addR
    cases h : F.sh c.shard with
    | some s => exact Grow.refl F
    | none =>
      refine ⟨List.prefix_refl _, Int.le_refl _, Int.le_refl _, fun a s hs => ⟨s, ?_, rfl, leB_refl _, fun h => ⟨h, rfl⟩⟩⟩
      show (if a = c.shard then _ else F.sh a) = some s
      rw [if_neg (by rintro rfl; rw [h] at hs; cases hs)]; exact hs
  split
  · unfold sealR
    split
    · exact seal_grow (by assumption)
    · exact Grow.refl F
  split
  · unfold trimR
    split
    · exact ⟨List.prefix_refl _, Int.le_refl _, by show F.low ≤ max F.low c.pos; omega, (Grow.refl F).sh⟩
    · exact Grow.refl F
  split
  · unfold cutR
    split
    · exact cut_grow (by assumption)
    · exact Grow.refl F
  · exact Grow.refl F
theorem applyF_grow (F : FS) (c : Cm) : Grow F (applyF F c) := by
  have h := doF_grow F c
  unfold applyF
  split
  · split
    · exact h
    · split
      · exact Grow.refl F
      · exact ⟨h.l, h.n, h.low, h.sh⟩
  · exact Grow.refl F
theorem applyF_no {F : FS} {c : Cm} (h0 : applyE F c ≠ 0) : (applyF F c).n = F.n := by
  unfold applyE at h0
  unfold applyF
  by_cases h1 : checkB c = true
  · rw [if_pos h1] at h0
    simp only [if_pos h1]
    by_cases h2 : c.client = 0 ∧ c.seq = 0
    · rw [if_pos h2] at h0
      simp only [if_pos h2]
      rw [doF_no h0]
    · rw [if_neg h2] at h0
      simp only [if_neg h2]
      cases h3 : F.told c.client c.seq with
      | some x => rfl
      | none =>
        rw [h3] at h0
        simp only at h0
        simp only
        rw [doF_no h0]; rfl
  · rw [if_neg h1]
end Go.Proofs.Ytabanackdjlcmaa

namespace Go.Proofs.Ytabanackdjlcmaa
open Go.ChangeShapes Go.WideShapes Go.ChangeAt Go.RowKit Go.Maps
set_option maxRecDepth 100000

/-- What was told once, and what a state keeps of it. -/
structure Kept (B : List Sp) (H : List Sh) (lo : Int) (F : FS) : Prop where
  l : B <+: F.l
  low : lo ≤ F.low
  sh : ∀ s ∈ H, IdOk s.id ∧ ∃ t, F.sh s.id = some t ∧ t.segs = s.segs ∧ leB s.lens t.lens = true ∧ (s.fin = true → t.fin = true ∧ t.lens = s.lens)
theorem Kept.zero {F : FS} (h : 0 ≤ F.low) : Kept [] [] 0 F := ⟨List.nil_prefix, h, by simp⟩
theorem shL_mem {F : FS} (hid : ∀ a s, F.sh a = some s → s.id = a) {s : Sh} (h : s ∈ shL F) : IdOk s.id ∧ F.sh s.id = some s := by
  unfold shL at h
  obtain ⟨a, ha, hs⟩ := List.mem_filterMap.1 h
  rw [hid a s hs]
  exact ⟨((shIds_mem F a).1 ha).1, hs⟩
theorem shL_of {F : FS} {a : Int} {s : Sh} (h : IdOk a) (hs : F.sh a = some s) : s ∈ shL F := by
  unfold shL
  exact List.mem_filterMap.2 ⟨a, (shIds_mem F a).2 ⟨h, by rw [hs]; rfl⟩, hs⟩
theorem Kept.now {F : FS} (hid : ∀ a s, F.sh a = some s → s.id = a) : Kept F.l (shL F) F.low F :=
  ⟨List.prefix_refl _, Int.le_refl _, fun s hs => by obtain ⟨h1, h2⟩ := shL_mem hid hs; exact ⟨h1, s, h2, rfl, leB_refl _, fun h => ⟨h, rfl⟩⟩⟩
theorem Kept.grow {B : List Sp} {H : List Sh} {lo : Int} {F G : FS} (h : Kept B H lo F) (g : Grow F G) : Kept B H lo G := by
  refine ⟨h.l.trans g.l, Int.le_trans h.low g.low, fun s hs => ?_⟩
  obtain ⟨hi, t, t1, t2, t3, t4⟩ := h.sh s hs
  obtain ⟨u, u1, u2, u3, u4⟩ := g.sh s.id t t1
  refine ⟨hi, u, u1, u2.trans t2, leB_trans t3 u3, fun hf => ?_⟩
  obtain ⟨x1, x2⟩ := t4 hf
  obtain ⟨y1, y2⟩ := u4 x1
  exact ⟨y1, y2.trans x2⟩
/-- What the law asks of one earlier shard and one of now. -/
theorem Kept.same {B : List Sp} {H : List Sh} {lo : Int} {F : FS} (h : Kept B H lo F) (hid : ∀ a s, F.sh a = some s → s.id = a) {s t : Sh} (hs : s ∈ H) (ht : t ∈ shL F) (he : t.id = s.id) :
    t.segs = s.segs ∧ leB s.lens t.lens = true ∧ (s.fin = true → t.fin = true ∧ (t.lens == s.lens) = true) := by
  obtain ⟨_, u, u1, u2, u3, u4⟩ := h.sh s hs
  obtain ⟨_, h2⟩ := shL_mem hid ht
  rw [he, u1] at h2
  cases h2
  exact ⟨u2, u3, fun hf => ⟨(u4 hf).1, by rw [(u4 hf).2]; simp⟩⟩
theorem Kept.found {B : List Sp} {H : List Sh} {lo : Int} {F : FS} (h : Kept B H lo F) (hid : ∀ a s, F.sh a = some s → s.id = a) {s : Sh} (hs : s ∈ H) : ∃ t ∈ shL F, t.id = s.id := by
  obtain ⟨hi, u, u1, _⟩ := h.sh s hs
  exact ⟨u, shL_of hi u1, hid _ _ u1⟩

/-- A state that the call has made, beside the spans and shards of a time ago. -/
def FoldG (W : World) (p : Value) (w : World) (N : Nat) (F : FS) (v1 v2 : Value) (B : List Sp) (H : List Sh) : Prop :=
  ∃ D vs, Sep W.heap.size w [obFd p D N F, obRow v1 60 5 B.length (spC B), obShs v2 35 vs H] ∧ Below W.heap.size W w
section
variable {W w w' : World} {p v1 v2 : Value} {N : Nat} {F : FS} {B : List Sp} {H : List Sh}
theorem FoldG.below (h : FoldG W p w N F v1 v2 B H) : Below W.heap.size W w := by obtain ⟨_, _, _, hb⟩ := h; exact hb
theorem FoldG.step (h : FoldG W p w N F v1 v2 B H) (hb : Below w.heap.size w w') : FoldG W p w' N F v1 v2 B H := by
  obtain ⟨D, E, h1, h2⟩ := h
  exact ⟨D, E, h1.step hb, h2.trans (hb.mono h2.size)⟩
theorem FoldG.one (h : FoldG W p w N F v1 v2 B H) : FoldW W p w N F := by
  obtain ⟨D, E, h1, h2⟩ := h
  exact ⟨D, h1.get 0 rfl, fun k hk => h1.base _ (List.mem_cons_self ..) k hk, h2⟩
theorem FoldG.num (h : FoldG W p w N F v1 v2 B H) : 0 ≤ F.low ∧ F.low ≤ F.n ∧ (∀ a s, F.sh a = some s → s.id = a) ∧ (∀ a s, F.sh a = some s → U64 s.lens) := by
  obtain ⟨D, ⟨b0, bs, bt, n, lv, rfl, h2, h3⟩, _⟩ := h.one
  exact ⟨h2.num.2.2.1, h2.num.2.2.2, fun a s hs => (h2.small a s hs).2.2.2.1, fun a s hs => (h2.small a s hs).2.2.2.2⟩
theorem FoldG.more (h : FoldG W p w N F v1 v2 B H) {N' : Nat} (hN : N ≤ N') : FoldG W p w N' F v1 v2 B H := by
  obtain ⟨D, E, hs, hb⟩ := h
  have h0 : FoldO p D w N F := hs.get 0 rfl
  exact ⟨D, E, hs.head (Keep.refl _ _) (obFd_good ..) (by obtain ⟨b0, bs, bt, n, lv, g1, g2, g3⟩ := h0; exact ⟨b0, bs, bt, n, lv, g1, g2, by omega⟩) (fun k hk => Or.inl hk), hb⟩
theorem FoldG.apply (h : FoldG W p w N F v1 v2 B H) {c : Cm} {v : Value} (hv : RowsL W v c.rows) (hl : c.rows.length ≤ 1000000) (hc : CmOk c) (hFl : F.l.length ≤ 1000000000) (hN : N ≤ 900000) :
    Calls Try.prog 25 #[p, cmV c v] w fun e w' => e = .returned (.int .i64 (applyE F c)) ∧ FoldG W p w' (N + 10) (applyF F c) v1 v2 B H := by
  obtain ⟨D, E, h1, h2⟩ := h
  have h0 : FoldO p D w N F := h1.get 0 rfl
  have hD : ∀ k, D k → W.heap.size ≤ k := fun k hk => h1.base (obFd p D N F) (by simp) k hk
  refine (h0.apply (v := v) (c := c) (fun w' hk => hv.below (h2.trans (hk.below h2.size hD)) (Nat.le_refl _)) hl hc hFl hN).mono ?_
  rintro e w' ⟨rfl, D', hf, hm⟩
  exact ⟨rfl, D', E, h1.head hm.keep (obFd_good ..) hf (fun k hk => hm.new k hk), h2.trans (hm.keep.below h2.size hD)⟩
theorem FoldG.spans (h : FoldG W p w N F v1 v2 B H) {v : Value} {l : List Sp} (ho : w'.ownsRow w.heap.size 60 5 v l.length (spC l)) (hb : Below w.heap.size w w') : FoldG W p w' N F v v2 l H := by
  obtain ⟨D, E, h1, h2⟩ := h
  have h3 := h1.new (o := obRow v 60 5 l.length (spC l)) hb (obRow_good ..) (ho.weaken (Nat.zero_le _)) (fun k hk => (ho.lt k hk).1)
  refine ⟨D, E, (h3.perm (l := obRow v1 60 5 B.length (spC B) :: [obFd p D N F, obRow v 60 5 l.length (spC l), obShs v2 35 E H]) ?_).sub (List.sublist_cons_self _ _), h2.trans (hb.mono h2.size)⟩
  exact (List.Perm.swap _ _ _).trans (((List.Perm.swap _ _ _).cons _).trans (List.Perm.swap _ _ _))
theorem FoldG.shards (h : FoldG W p w N F v1 v2 B H) {v : Value} {vs : List Value} {l : List Sh} (ho : Sep w.heap.size w' [obShs v 35 vs l]) (hb : Below w.heap.size w w') : FoldG W p w' N F v1 v B l := by
  obtain ⟨D, E, h1, h2⟩ := h
  have h3 := h1.new (o := obShs v 35 vs l) hb (obShs_good ..) (ho.get 0 rfl) (fun k hk => ho.base (obShs v 35 vs l) (by simp) k hk)
  refine ⟨D, vs, (h3.perm (l := obShs v2 35 E H :: [obFd p D N F, obRow v1 60 5 B.length (spC B), obShs v 35 vs l]) ?_).sub (List.sublist_cons_self _ _), h2.trans (hb.mono h2.size)⟩
  generalize obFd p D N F = a
  generalize obRow v1 60 5 B.length (spC B) = b
  generalize obShs v2 35 E H = c
  generalize obShs v 35 vs l = d
  -- d a b c ~ c a b d
  exact (List.perm_append_comm (l₁ := [d]) (l₂ := [a, b, c])).trans ((List.perm_append_comm (l₁ := [a, b]) (l₂ := [c])).append_right [d])
theorem fg_start (h : FoldW W p w N F) : FoldG W p w N F (.slice none 0 0) (.slice none 0 0) [] [] := by
  obtain ⟨D, h1, h2, h3⟩ := h
  have hs : Sep W.heap.size w [obFd p D N F] := ⟨by intro o ho; simp at ho; subst ho; exact obFd_good .., by intro o ho; simp at ho; subst ho; exact h1, by intro o ho k hk; simp at ho; subst ho; exact h2 k hk, List.pairwise_singleton _ _, h3.size⟩
  have h4 := hs.new (o := obRow (.slice none 0 0) 60 5 0 (spC [])) (Below.refl _ _) (obRow_good ..) (World.ownsRow_nil _ _ _ _) (fun k hk => by cases hk)
  have h5 := h4.new (o := obShs (.slice none 0 0) 35 [] []) (Below.refl _ _) (obShs_good ..) ⟨World.ownsRow_nil _ _ _ _, ShC.nil w, by simp⟩ (fun k hk => by rcases hk with hk | ⟨u, hu, _⟩; cases hk; cases hu)
  refine ⟨D, [], h5.perm ?_, h3⟩
  exact ((List.Perm.swap _ _ _).cons _).trans ((List.Perm.swap _ _ _).trans ((List.Perm.swap _ _ _).cons _))
theorem FoldG.sp (h : FoldG W p w N F v1 v2 B H) : SpL w v1 B := by
  obtain ⟨D, E, h1, _⟩ := h
  exact SpL.of_own (h1.get 1 rfl : w.ownsRow 0 60 5 v1 B.length (spC B))
theorem FoldG.sh (h : FoldG W p w N F v1 v2 B H) : ShL w v2 H := by
  obtain ⟨D, E, h1, _⟩ := h
  have := (h1.get 2 rfl : (obShs v2 35 E H).inv w)
  exact ShL.of_own this.1 this.2.1
theorem FoldG.form (h : FoldG W p w N F v1 v2 B H) : (∃ a c, v1 = .slice a B.length c ∧ B.length ≤ c ∧ c ≤ 9223372036854775807) ∧ ∃ a c, v2 = .slice a H.length c ∧ H.length ≤ c ∧ c ≤ 9223372036854775807 := by
  obtain ⟨D, E, h1, _⟩ := h
  exact ⟨own_form (h1.get 1 rfl : w.ownsRow 0 60 5 v1 B.length (spC B)), own_form (h1.get 2 rfl : (obShs v2 35 E H).inv w).1⟩
end
theorem ShL.at {w : World} {ao : Option Addr} {n c : Nat} {hs : List Sh} (h : ShL w (.slice ao n c) hs) (k : Nat) (s : Sh) (hk : hs[k]? = some s) :
    ∃ a so sc, ao = some a ∧ w.cell? (a.add (k * 4)) = some (.int .i64 s.id) ∧ w.cell? ⟨(a.add (k * 4)).block, (a.add (k * 4)).off + 1, none⟩ = some (.int .i64 s.segs) ∧
    w.cell? ⟨(a.add (k * 4)).block, (a.add (k * 4)).off + 2, none⟩ = some (.slice so s.lens.length sc) ∧ w.cell? ⟨(a.add (k * 4)).block, (a.add (k * 4)).off + 3, none⟩ = some (.bool s.fin) ∧ SlR w (.slice so s.lens.length sc) (u64s s.lens) ∧ s.lens.length ≤ sc ∧ sc ≤ 9223372036854775807 := by
  obtain ⟨a', c', hv, _, _, hx⟩ := h
  cases hv
  obtain ⟨a, sv, ha, c0, c1, c2, c3, hs⟩ := hx k s hk
  obtain ⟨so, sc, e, h1, h2⟩ := hs.form
  simp only [List.length_map] at e h1
  subst e
  exact ⟨a, so, sc, ha, c0, c1, c2, c3, hs, h1, h2⟩
theorem quiet_drew2 {P : Program} {f : FuncId} {args : Array Value} {w : World} {q n : Nat} {v : Value}
    (h : Calls P f args (w.drewN (q + n)) fun e w' => e = .returned v ∧ Drew (w.drewN (q + n)) w') : Calls P f args (w.drewN (q + n)) fun e w'' => e = .returned v ∧ ∃ m, w'' = w.drewN (q + m) :=
  h.mono fun _ _ ⟨he, k, hk⟩ => ⟨he, n + k, by rw [hk, drewN_eq, drewN_eq, drewN_eq]; simp [Nat.add_assoc]⟩
end Go.Proofs.Ytabanackdjlcmaa
