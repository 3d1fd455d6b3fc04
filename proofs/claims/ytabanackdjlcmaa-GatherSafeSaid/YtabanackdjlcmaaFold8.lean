/-
  A state as an object: nobody's cuts and seals, what is found, where a record stands.
-/
import Derived.Test.YtabanackdjlcmaaSeal
import Derived.Test.YtabanackdjlcmaaPlace
namespace Go.Proofs.Ytabanackdjlcmaa
open Go.ChangeShapes Go.WideShapes Go.ChangeAt Go.RowKit Go.Maps
set_option maxRecDepth 100000

/-- A state behind a cut, behind a seal, whether they went through or not. -/
def cutR (F : FS) (rs : Rw) : FS := if cutE F rs = 0 then cutF F rs else F
def sealR (F : FS) (id : Int) (rs : Rw) : FS := if sealE F id rs = 0 then sealF F id rs else F
/-- What a call does to an object: its blocks, and new ones. -/
structure Moved (D D' : Nat → Prop) (w w' : World) : Prop where
  keep : Keep D w w'
  sub : ∀ k, D k → D' k
  new : ∀ k, D' k → D k ∨ w.heap.size ≤ k
theorem Moved.refl (D : Nat → Prop) (w : World) : Moved D D w w := ⟨Keep.refl _ _, fun _ h => h, fun _ h => Or.inl h⟩
theorem Moved.of {D : Nat → Prop} {w w' : World} (h : Keep D w w') : Moved D D w w' := ⟨h, fun _ h => h, fun _ h => Or.inl h⟩
theorem Moved.trans {D D' D'' : Nat → Prop} {w w' w'' : World} (h : Moved D D' w w') (k : Moved D' D'' w' w'') : Moved D D'' w w'' :=
  ⟨h.keep.chain k.keep (fun x hx hd => by rcases h.new x hd with e | e; exact e; omega), fun x hx => k.sub x (h.sub x hx), fun x hx => by
    rcases k.new x hx with e | e
    · exact h.new x e
    · have := h.keep.size; exact Or.inr (by omega)⟩
theorem Moved.step {D D' : Nat → Prop} {w w' w'' : World} (h : Moved D D' w w') (k : Below w'.heap.size w' w'') : Moved D D' w w'' := h.trans (Moved.of (Below.keep0 _ k))
/-- Whose blocks all lie behind a mark: what lies ahead of it is as it was. -/
theorem Moved.below {D D' : Nat → Prop} {w w' : World} {B : Nat} (h : Moved D D' w w') (hD : ∀ k, D k → B ≤ k) (hB : B ≤ w.heap.size) : Below B w w' ∧ ∀ k, D' k → B ≤ k :=
  ⟨h.keep.below hB hD, fun k hk => by rcases h.new k hk with e | e; exact hD k e; omega⟩

/-- Rows that a cut or seal gets stay while the object's blocks turn. -/
def RowsD (D : Nat → Prop) (w : World) (v : Value) (rs : Rw) : Prop := ∀ w', Keep D w w' → RowsL w' v rs
theorem RowsD.nil (D : Nat → Prop) (w : World) : RowsD D w (.slice none 0 0) [] := fun w' _ => RowsL.nil w'
theorem RowsD.below {D : Nat → Prop} {w w1 : World} {v : Value} {rs : Rw} (h : RowsD D w v rs) (hb : Below w.heap.size w w1) : RowsD D w1 v rs := fun w' hk => h w' ((Below.keep0 D hb).trans hk)
theorem RowsD.one {D : Nat → Prop} {w : World} {B : Nat} {id : Int} {sv : Value} {xs : List Int} {t : TypeId} (hB : w.heap[B]? = some (.cells #[.int .i64 id, sv] t)) (hs : SlR w sv (u64s xs)) (hD : ¬ D B) (ho : Off D sv) : RowsD D w (.slice (some ⟨B, 0, none⟩) 1 1) [(id, xs)] := by
  intro w' hk
  have hb := (hk.block B (Array.getElem?_eq_some_iff.1 hB).1 hD).trans hB
  refine ⟨_, _, rfl, Nat.le_refl _, by decide, fun i r hr => ?_⟩
  cases i with
  | succ i => simp at hr
  | zero =>
    simp at hr
    subst hr
    exact ⟨_, sv, rfl, World.news_of_block hb 0 _ rfl, by rw [add_more _ _ _ (by omega)]; exact World.news_of_block hb 1 _ rfl, hs.keep hk ho⟩
theorem FoldO.cut {p : Value} {D : Nat → Prop} {w : World} {N : Nat} {F : FS} (h : FoldO p D w N F) {v : Value} {rs : Rw} (hvk : RowsD D w v rs) (hl : rs.length ≤ 8) (hok : rowsB rs = true) (hu : ∀ r ∈ rs, U64 r.2) (hFl : F.l.length ≤ 1000000000) (hN : N ≤ 900000000) :
    Calls Try.prog 25 #[p, .agg #[.int .i64 4, .int .u64 0, .int .u64 0, .int .i64 0, .int .i64 0, .int .u64 0, v]] w fun e w' => e = .returned (.int .i64 (cutE F rs)) ∧ ∃ D', FoldO p D' w' (N + 9) (cutR F rs) ∧ Moved D D' w w' := by
  obtain ⟨b0, bs, bt, n, lv, rfl, h2, h3⟩ := h
  refine (apply_cut w b0 v (hvk w (Keep.refl _ _)) (by omega) hok (Q := fun x w' => x = cutE F rs ∧ ∃ D', FoldO (.pointer (some ⟨b0, 0, none⟩)) D' w' (N + 9) (cutR F rs) ∧ Moved D D' w w') (fun w2 hb2 => ?_)).mono ?_
  · refine (cut_walk (h2.below hb2 (Nat.le_refl _)) (hvk.below hb2) hl hFl (by omega) hok hu).mono ?_
    rintro e w' ⟨rfl, hneg, hpos⟩
    refine ⟨_, rfl, rfl, ?_⟩
    unfold cutR
    by_cases hc : cutE F rs = 0
    · obtain ⟨D', lv', hf, hk, hs, hn⟩ := hpos hc
      rw [if_pos hc]
      exact ⟨D', ⟨b0, bs, bt, _, lv', rfl, hf, by omega⟩, (Moved.of (Below.keep0 D hb2)).trans ⟨hk, hs, hn⟩⟩
    · rw [if_neg hc]
      have hb := hb2.trans ((hneg hc).mono hb2.size)
      exact ⟨D, ⟨b0, bs, bt, n, lv, rfl, h2.below hb (Nat.le_refl _), by omega⟩, Moved.of (Below.keep0 D hb)⟩
  · rintro e w' ⟨x, rfl, rfl, hh⟩
    exact ⟨rfl, hh⟩
theorem FoldO.seal {p : Value} {D : Nat → Prop} {w : World} {N : Nat} {F : FS} (h : FoldO p D w N F) {id : Int} (hid : 0 ≤ id ∧ id < 8) {v : Value} {rs : Rw} (hvk : RowsD D w v rs) (hl : rs.length ≤ 8) (hok : rowsB rs = true) (hu : ∀ r ∈ rs, U64 r.2) (hsame : ∀ r ∈ rs, r.1 = id) (hFl : F.l.length ≤ 1000000000) (hN : N ≤ 900000000) :
    Calls Try.prog 25 #[p, .agg #[.int .i64 2, .int .u64 0, .int .u64 0, .int .i64 id, .int .i64 0, .int .u64 0, v]] w fun e w' => e = .returned (.int .i64 (sealE F id rs)) ∧ ∃ D', FoldO p D' w' (N + 9) (sealR F id rs) ∧ Moved D D' w w' := by
  obtain ⟨b0, bs, bt, n, lv, rfl, h2, h3⟩ := h
  have hv0 := hvk w (Keep.refl _ _)
  have hv2 : ∃ ao n c, v = .slice ao n c := by obtain ⟨ao, c, e, _⟩ := hv0; exact ⟨ao, _, c, e⟩
  refine (apply_nobody w b0 2 id 0 0 v hv2 (Q := fun x w' => x = sealE F id rs ∧ ∃ D', FoldO (.pointer (some ⟨b0, 0, none⟩)) D' w' (N + 9) (sealR F id rs) ∧ Moved D D' w w') (fun w1 hb1 => ?_) (fun w1 hb1 => ?_)).mono ?_
  · exact check_seal (c := ⟨2, 0, 0, id, 0, 0, rs⟩) (hv0.below hb1 (Nat.le_refl _)) (by show rs.length ≤ _; omega) (by unfold checkA; simp [hok, fitsB, hasW, hasS, hasG, hasP, hasR, hid.1, hid.2]) rfl hsame
  · refine do_seal w1 b0 0 0 id 0 0 v hv2 (fun w2 hb2 => ?_)
    have hbb := hb1.trans (hb2.mono hb1.size)
    refine (seal_any (h2.below hbb (Nat.le_refl _)) (hvk.below hbb) hl hFl (by omega) hok hu ⟨hid.1, by omega⟩).mono ?_
    rintro e w' ⟨rfl, hneg, hpos⟩
    refine ⟨_, rfl, rfl, ?_⟩
    unfold sealR
    by_cases hc : sealE F id rs = 0
    · obtain ⟨D', lv', hf, hk, hs, hn⟩ := hpos hc
      rw [if_pos hc]
      exact ⟨D', ⟨b0, bs, bt, _, lv', rfl, hf, by omega⟩, (Moved.of (Below.keep0 D hbb)).trans ⟨hk, hs, hn⟩⟩
    · rw [if_neg hc]
      have hb := hbb.trans ((hneg hc).mono hbb.size)
      exact ⟨D, ⟨b0, bs, bt, n, lv, rfl, h2.below hb (Nat.le_refl _), by omega⟩, Moved.of (Below.keep0 D hb)⟩
  · rintro e w' ⟨x, rfl, rfl, hh⟩
    exact ⟨rfl, hh⟩
theorem FoldO.later {p : Value} {D : Nat → Prop} {w : World} {N : Nat} {F : FS} (h : FoldO p D w N F) {pos : Int} (hp : F.n ≤ pos) :
    Calls Try.prog 27 #[p, .int .u64 pos] w fun e w' => e = .returned (.tuple #[.int .i64 0, .int .i64 0, .int .u64 0, .int .i64 36]) ∧ w = w' := by
  obtain ⟨b0, bs, bt, n, lv, rfl, h2, h3⟩ := h; exact find_later h2 hp
theorem FoldO.trimmed {p : Value} {D : Nat → Prop} {w : World} {N : Nat} {F : FS} (h : FoldO p D w N F) {pos : Int} (hp : pos < F.low) :
    Calls Try.prog 27 #[p, .int .u64 pos] w fun e w' => e = .returned (.tuple #[.int .i64 0, .int .i64 0, .int .u64 0, .int .i64 35]) ∧ w = w' := by
  obtain ⟨b0, bs, bt, n, lv, rfl, h2, h3⟩ := h; exact find_trimmed h2 hp
theorem FoldO.find {p : Value} {D : Nat → Prop} {w : World} {N : Nat} {F : FS} (h : FoldO p D w N F) {pos : Int} (hp0 : F.low ≤ pos) (hp1 : pos < F.n) (hl : F.l.length ≤ 1000000)
    (hsort : ∀ (a b : Nat) (p q : Sp), a < b → F.l[a]? = some p → F.l[b]? = some q → p.pos < q.pos) {k : Nat} {s : Sp} (hk : F.l[k]? = some s) (hs1 : s.pos ≤ pos) (hs2 : ∀ (j : Nat) (x : Sp), k < j → F.l[j]? = some x → pos < x.pos) (hs3 : 0 ≤ s.off ∧ 0 ≤ s.pos ∧ s.off + pos ≤ 18446744073709551615) :
    Calls Try.prog 27 #[p, .int .u64 pos] w fun e w' => e = .returned (.tuple #[.int .i64 s.shard, .int .i64 s.seg, .int .u64 (s.off + pos - s.pos), .int .i64 0]) ∧ Below w.heap.size w w' := by
  obtain ⟨b0, bs, bt, n, lv, rfl, h2, h3⟩ := h; exact find_ok h2 hp0 hp1 hl hsort hk hs1 hs2 hs3
theorem FoldO.place {p : Value} {D : Nat → Prop} {w : World} {N : Nat} {F : FS} (h : FoldO p D w N F) {shard seg off : Int} (hi : IdOk shard) {s : Sh} (hs : F.sh shard = some s) (hs0 : 0 ≤ seg) (hs1 : seg < s.segs) (ho : 0 ≤ off ∧ off ≤ 18446744073709551615) (hl : F.l.length ≤ 1000000000)
    (hx : ∀ x ∈ F.l, 0 ≤ x.off) {k : Nat} {x : Sp} (hk : F.l[k]? = some x) (hh : spHit shard seg off x = true) (hno : ∀ (j : Nat) (y : Sp), j < k → F.l[j]? = some y → spHit shard seg off y = false) (hp : 0 ≤ x.pos ∧ x.pos + off ≤ 18446744073709551615) :
    Calls Try.prog 33 #[p, .int .i64 shard, .int .i64 seg, .int .u64 off] w fun e w' => e = .returned (.tuple #[.int .u64 (x.pos + off - x.off), .int .i64 0]) ∧ Below w.heap.size w w' := by
  obtain ⟨b0, bs, bt, n, lv, rfl, h2, h3⟩ := h; exact place_ok h2 hi hs hs0 hs1 ho hl hx hk hh hno hp
/-- Nobody adds a shard, in one word. -/
def addE (F : FS) (id : Int) : Int := match F.sh id with | none => 0 | some _ => 31
def addR (F : FS) (id : Int) (sg : Nat) : FS := match F.sh id with | none => putS F id ⟨id, sg, [], false⟩ | some _ => F
theorem FoldO.added {p : Value} {D : Nat → Prop} {w : World} {N : Nat} {F : FS} (h : FoldO p D w N F) {shard : Int} {sg : Nat} (hs0 : 0 ≤ shard ∧ shard < 8) (hs1 : 1 ≤ sg) (hs4 : sg ≤ 4) (hN : N < 1000000) :
    Calls Try.prog 25 #[p, .agg #[.int .i64 1, .int .u64 0, .int .u64 0, .int .i64 shard, .int .i64 sg, .int .u64 0, .slice none 0 0]] w fun e w' => e = .returned (.int .i64 (addE F shard)) ∧ ∃ D', FoldO p D' w' (N + 1) (addR F shard sg) ∧ Moved D D' w w' := by
  refine (h.add hs0 hs1 hs4 hN).mono ?_
  rintro e w' ⟨x, rfl, h1, h2, hk⟩
  unfold addE addR
  cases hs : F.sh shard with
  | none => obtain ⟨rfl, hf⟩ := h1 hs; exact ⟨rfl, D, hf, Moved.of hk⟩
  | some s =>
    obtain ⟨rfl, hf⟩ := h2 (by rw [hs]; simp)
    obtain ⟨b0, bs, bt, n, lv, e1, e2, e3⟩ := hf
    exact ⟨rfl, D, ⟨b0, bs, bt, n, lv, e1, e2, by omega⟩, Moved.of hk⟩
def trimE (F : FS) (pos : Int) : Int := if pos ≤ F.n then 0 else 36
def trimR (F : FS) (pos : Int) : FS := if pos ≤ F.n then trimF F pos else F
theorem FoldO.trimmed2 {p : Value} {D : Nat → Prop} {w : World} {N : Nat} {F : FS} (h : FoldO p D w N F) {pos : Int} (hp : 0 ≤ pos) :
    Calls Try.prog 25 #[p, .agg #[.int .i64 3, .int .u64 0, .int .u64 0, .int .i64 0, .int .i64 0, .int .u64 pos, .slice none 0 0]] w fun e w' => e = .returned (.int .i64 (trimE F pos)) ∧ ∃ D', FoldO p D' w' N (trimR F pos) ∧ Moved D D' w w' := by
  refine (h.trim hp).mono ?_
  rintro e w' ⟨x, rfl, h1, h2, hk⟩
  unfold trimE trimR
  by_cases hs : pos ≤ F.n
  · obtain ⟨rfl, hf⟩ := h1 hs; rw [if_pos hs, if_pos hs]; exact ⟨rfl, D, hf, Moved.of hk⟩
  · obtain ⟨rfl, hf⟩ := h2 (by omega); rw [if_neg hs, if_neg hs]; exact ⟨rfl, D, hf, Moved.of hk⟩
end Go.Proofs.Ytabanackdjlcmaa
