/-
  A state beside other memory of the call's own; how its spans stand.
-/
import Derived.Test.YtabanackdjlcmaaFoldA
namespace Go.Proofs.Ytabanackdjlcmaa
open Go.ChangeShapes Go.WideShapes Go.ChangeAt Go.RowKit Go.Maps
set_option maxRecDepth 100000

/-- A state that the call itself has made; the blocks of S are not its. -/
def FoldV (W : World) (S : Nat → Prop) (p : Value) (w : World) (N : Nat) (F : FS) : Prop := ∃ D, FoldO p D w N F ∧ (∀ k, D k → W.heap.size ≤ k ∧ ¬ S k) ∧ Below W.heap.size W w ∧ ∀ k, S k → k < w.heap.size
section
variable {W w w' w1 : World} {S : Nat → Prop} {p : Value} {N : Nat} {F : FS}
theorem FoldV.asW (h : FoldV W S p w N F) : FoldW W p w N F := by obtain ⟨D, h1, h2, h3, _⟩ := h; exact ⟨D, h1, fun k hk => (h2 k hk).1, h3⟩
theorem FoldV.below (h : FoldV W S p w N F) : Below W.heap.size W w := h.asW.below
theorem FoldV.step (h : FoldV W S p w N F) (hb : Below w.heap.size w w') : FoldV W S p w' N F := by
  obtain ⟨D, h1, h2, h3, h4⟩ := h
  exact ⟨D, h1.step hb, h2, h3.trans (hb.mono h3.size), fun k hk => Nat.lt_of_lt_of_le (h4 k hk) hb.size⟩
theorem FoldV.sub {S' : Nat → Prop} (h : FoldV W S p w N F) (hS : ∀ k, S' k → S k) : FoldV W S' p w N F := by
  obtain ⟨D, h1, h2, h3, h4⟩ := h
  exact ⟨D, h1, fun k hk => ⟨(h2 k hk).1, fun hs => (h2 k hk).2 (hS k hs)⟩, h3, fun k hk => h4 k (hS k hk)⟩
/-- What is made behind the state's last turn. -/
theorem FoldV.more (h : FoldV W S p w N F) (hb : Below w.heap.size w w1) : FoldV W (fun k => S k ∨ (w.heap.size ≤ k ∧ k < w1.heap.size)) p w1 N F := by
  obtain ⟨D, h1, h2, h3, h4⟩ := h
  refine ⟨D, h1.step hb, fun k hk => ⟨(h2 k hk).1, ?_⟩, h3.trans (hb.mono h3.size), fun k hk => ?_⟩
  · rintro (e | e)
    · exact (h2 k hk).2 e
    · have := h1.lt k hk; omega
  · rcases hk with e | e
    · have := h4 k e; have := hb.size; omega
    · exact e.2
theorem FoldW.v (h : FoldW W p w N F) (hb : Below w.heap.size w w1) : FoldV W (fun k => w.heap.size ≤ k ∧ k < w1.heap.size) p w1 N F := by
  obtain ⟨D, h1, h2, h3⟩ := h
  exact ⟨D, h1.step hb, fun k hk => ⟨h2 k hk, fun e => by have := h1.lt k hk; omega⟩, h3.trans (hb.mono h3.size), fun k hk => hk.2⟩
theorem FoldV.moved {M : Nat} {D D' : Nat → Prop} {F' : FS} (hD : ∀ k, D k → W.heap.size ≤ k ∧ ¬ S k) (hb : Below W.heap.size W w) (hS : ∀ k, S k → k < w.heap.size) (hf : FoldO p D' w' M F') (hm : Moved D D' w w') : FoldV W S p w' M F' ∧ Keep (fun k => ¬ S k) w w' := by
  obtain ⟨h1, h2⟩ := hm.below (fun k hk => (hD k hk).1) hb.size
  refine ⟨⟨D', hf, fun k hk => ⟨h2 k hk, fun hs => ?_⟩, hb.trans h1, fun k hk => Nat.lt_of_lt_of_le (hS k hk) hm.keep.size⟩, hm.keep.mono (fun k _ hd => (hD k hd).2)⟩
  rcases hm.new k hk with e | e
  · exact (hD k e).2 hs
  · have := hS k hs; omega
theorem FoldV.added (h : FoldV W S p w N F) {shard : Int} {sg : Nat} (hs0 : 0 ≤ shard ∧ shard < 8) (hs1 : 1 ≤ sg) (hs4 : sg ≤ 4) (hN : N < 1000000) :
    Calls Try.prog 25 #[p, .agg #[.int .i64 1, .int .u64 0, .int .u64 0, .int .i64 shard, .int .i64 sg, .int .u64 0, .slice none 0 0]] w fun e w' => e = .returned (.int .i64 (addE F shard)) ∧ FoldV W S p w' (N + 1) (addR F shard sg) ∧ Keep (fun k => ¬ S k) w w' := by
  obtain ⟨D, h1, h2, h3, h4⟩ := h
  exact (h1.added hs0 hs1 hs4 hN).mono fun e w' ⟨g1, D', g2, g3⟩ => ⟨g1, FoldV.moved h2 h3 h4 g2 g3⟩
theorem FoldV.trim (h : FoldV W S p w N F) {pos : Int} (hp : 0 ≤ pos) :
    Calls Try.prog 25 #[p, .agg #[.int .i64 3, .int .u64 0, .int .u64 0, .int .i64 0, .int .i64 0, .int .u64 pos, .slice none 0 0]] w fun e w' => e = .returned (.int .i64 (trimE F pos)) ∧ FoldV W S p w' N (trimR F pos) ∧ Keep (fun k => ¬ S k) w w' := by
  obtain ⟨D, h1, h2, h3, h4⟩ := h
  exact (h1.trimmed2 hp).mono fun e w' ⟨g1, D', g2, g3⟩ => ⟨g1, FoldV.moved h2 h3 h4 g2 g3⟩
theorem FoldV.cut (h : FoldV W S p w N F) {v : Value} {rs : Rw} (hv : RowsD (fun k => ¬ S k) w v rs) (hl : rs.length ≤ 8) (hok : rowsB rs = true) (hu : ∀ r ∈ rs, U64 r.2) (hFl : F.l.length ≤ 1000000000) (hN : N ≤ 900000000) :
    Calls Try.prog 25 #[p, .agg #[.int .i64 4, .int .u64 0, .int .u64 0, .int .i64 0, .int .i64 0, .int .u64 0, v]] w fun e w' => e = .returned (.int .i64 (cutE F rs)) ∧ FoldV W S p w' (N + 9) (cutR F rs) ∧ Keep (fun k => ¬ S k) w w' := by
  obtain ⟨D, h1, h2, h3, h4⟩ := h
  exact (h1.cut (hv.sub (fun k hk => (h2 k hk).2)) hl hok hu hFl hN).mono fun e w' ⟨g1, D', g2, g3⟩ => ⟨g1, FoldV.moved h2 h3 h4 g2 g3⟩
theorem FoldV.seal (h : FoldV W S p w N F) {id : Int} (hid : 0 ≤ id ∧ id < 8) {v : Value} {rs : Rw} (hv : RowsD (fun k => ¬ S k) w v rs) (hl : rs.length ≤ 8) (hok : rowsB rs = true) (hu : ∀ r ∈ rs, U64 r.2) (hsame : ∀ r ∈ rs, r.1 = id) (hFl : F.l.length ≤ 1000000000) (hN : N ≤ 900000000) :
    Calls Try.prog 25 #[p, .agg #[.int .i64 2, .int .u64 0, .int .u64 0, .int .i64 id, .int .i64 0, .int .u64 0, v]] w fun e w' => e = .returned (.int .i64 (sealE F id rs)) ∧ FoldV W S p w' (N + 9) (sealR F id rs) ∧ Keep (fun k => ¬ S k) w w' := by
  obtain ⟨D, h1, h2, h3, h4⟩ := h
  exact (h1.seal hid (hv.sub (fun k hk => (h2 k hk).2)) hl hok hu hsame hFl hN).mono fun e w' ⟨g1, D', g2, g3⟩ => ⟨g1, FoldV.moved h2 h3 h4 g2 g3⟩
end

theorem sumI_cons (x : Int) (r : List Int) : sumI (x :: r) = x + sumI r := by simp [sumI]
theorem manyOf_cons (s : Sp) (r : List Sp) : manyOf (s :: r) = s.many :: manyOf r := rfl
theorem manyOf_app (a b : List Sp) : manyOf (a ++ b) = manyOf a ++ manyOf b := by simp [manyOf]
theorem sumI_app (a b : List Int) : sumI (a ++ b) = sumI a + sumI b := by simp [sumI]
theorem sumI_pos {L : List Sp} (h : ∀ s ∈ L, 0 < s.many) : 0 ≤ sumI (manyOf L) := by
  induction L with
  | nil => simp [manyOf, sumI]
  | cons s r ih =>
    have h1 := ih (fun x hx => h x (by simp [hx]))
    have h2 := h s (by simp)
    rw [manyOf_cons, sumI_cons]; omega
/-- Where told positions begin and end. -/
theorem posSp_bounds {L : List Sp} (h : ∀ s ∈ L, 0 < s.many) (n : Int) : ∀ x ∈ posSp n L, n ≤ x.pos ∧ x.pos + x.many ≤ n + sumI (manyOf L) := by
  induction L generalizing n with
  | nil => intro x hx; cases hx
  | cons s r ih =>
    intro x hx
    have h1 := h s (by simp)
    have h2 := sumI_pos (fun x hx => h x (List.mem_cons_of_mem s hx))
    rw [manyOf_cons, sumI_cons]
    rcases List.mem_cons.1 hx with rfl | hx
    · show n ≤ n ∧ n + s.many ≤ _; omega
    · have := ih (fun x hx => h x (by simp [hx])) (n + s.many) x hx
      omega
theorem posSp_sorted {L : List Sp} (h : ∀ s ∈ L, 0 < s.many) (n : Int) : ∀ (a b : Nat) (p q : Sp), a < b → (posSp n L)[a]? = some p → (posSp n L)[b]? = some q → p.pos + p.many ≤ q.pos := by
  induction L generalizing n with
  | nil => intro a b p q _ ha; simp [posSp] at ha
  | cons s r ih =>
    intro a b p q hab ha hb
    cases b with
    | zero => omega
    | succ b =>
      have hb' : (posSp (n + s.many) r)[b]? = some q := by simpa [posSp] using hb
      cases a with
      | zero =>
        have ha' : ({ s with pos := n } : Sp) = p := by simpa [posSp] using ha
        have := posSp_bounds (fun x hx => h x (List.mem_cons_of_mem s hx)) (n + s.many) q (List.mem_of_getElem? hb')
        subst ha'
        exact this.1
      | succ a =>
        have ha' : (posSp (n + s.many) r)[a]? = some p := by simpa [posSp] using ha
        exact ih (fun x hx => h x (by simp [hx])) (n + s.many) a b p q (by omega) ha' hb'
/-- Each position lies in one span. -/
theorem posSp_find {L : List Sp} (h : ∀ s ∈ L, 0 < s.many) (n : Int) {p : Int} (h0 : n ≤ p) (h1 : p < n + sumI (manyOf L)) : ∃ (k : Nat) (s : Sp), (posSp n L)[k]? = some s ∧ s.pos ≤ p ∧ p < s.pos + s.many := by
  induction L generalizing n with
  | nil => simp [manyOf, sumI] at h1; omega
  | cons s r ih =>
    rw [manyOf_cons, sumI_cons] at h1
    by_cases hp : p < n + s.many
    · exact ⟨0, { s with pos := n }, by simp [posSp], h0, hp⟩
    · obtain ⟨k, x, hk, hx⟩ := ih (fun x hx => h x (by simp [hx])) (n + s.many) (by omega) (by omega)
      exact ⟨k + 1, x, by simpa [posSp] using hk, hx⟩
/-- Told positions keep the rest. -/
theorem posSp_mem {L : List Sp} (n : Int) {x : Sp} (h : x ∈ posSp n L) : ∃ s ∈ L, x.shard = s.shard ∧ x.seg = s.seg ∧ x.off = s.off ∧ x.many = s.many := by
  induction L generalizing n with
  | nil => cases h
  | cons s r ih =>
    rcases List.mem_cons.1 h with rfl | h
    · exact ⟨s, by simp, rfl, rfl, rfl, rfl⟩
    · obtain ⟨y, hy, e⟩ := ih (n + s.many) h
      exact ⟨y, by simp [hy], e⟩
/-- How a state's spans stand: one behind the other, from nought on. -/
structure Dense (F : FS) (L : List Sp) : Prop where
  l : F.l = posSp 0 L
  n : F.n = sumI (manyOf L)
  ok : ∀ s ∈ L, 0 < s.many ∧ 0 ≤ s.off ∧ s.off + s.many ≤ 18446744073709551615
theorem Dense.empty : Dense emptyFS [] := ⟨rfl, rfl, by intro s hs; cases hs⟩
theorem Dense.cut {F : FS} {L : List Sp} (h : Dense F L) {rs : Rw} (hn : ∀ s ∈ rowsSp F rs, 0 < s.many ∧ 0 ≤ s.off ∧ s.off + s.many ≤ 18446744073709551615) : Dense (cutF F rs) (L ++ rowsSp F rs) := by
  refine ⟨?_, ?_, fun s hs => ?_⟩
  · show F.l ++ posSp F.n (rowsSp F rs) = _
    rw [posSp_app, h.l, h.n, Int.zero_add]
  · show F.n + sumI (manyOf (rowsSp F rs)) = _
    rw [manyOf_app, sumI_app, h.n]
  · rcases List.mem_append.1 hs with e | e
    · exact h.ok s e
    · exact hn s e
theorem Dense.same {F G : FS} {L : List Sp} (h : Dense F L) (hl : G.l = F.l) (hn : G.n = F.n) : Dense G L := ⟨by rw [hl, h.l], by rw [hn, h.n], h.ok⟩
theorem rowsSp_ok {F : FS} (hF : ∀ a s, F.sh a = some s → U64 s.lens) {rs : Rw} (hu : ∀ r ∈ rs, U64 r.2) : ∀ s ∈ rowsSp F rs, 0 < s.many ∧ 0 ≤ s.off ∧ s.off + s.many ≤ 18446744073709551615 := by
  intro s hs
  unfold rowsSp at hs
  obtain ⟨r, hr, hs⟩ := List.mem_flatMap.1 hs
  have hl : U64 (lensOf F r.1) := by
    unfold lensOf
    cases hh : F.sh r.1 with
    | none => intro x hx; cases hx
    | some s => exact hF _ _ hh
  have := newSp_mem (hu r hr) hl hs
  exact ⟨this.1, this.2.2.1, this.2.2.2.1⟩
/-- Any position that there is, and wasn't given up, is found. -/
theorem FoldW.findD {W w : World} {p : Value} {N : Nat} {F : FS} {L : List Sp} (h : FoldW W p w N F) (hd : Dense F L) {pos : Int} (hp0 : F.low ≤ pos) (hp1 : pos < F.n) (hl : L.length ≤ 1000000) (hz : 0 ≤ pos) (hb : ∀ s ∈ L, s.off + pos ≤ 18446744073709551615) :
    Calls Try.prog 27 #[p, .int .u64 pos] w fun e w' => (∃ (k : Nat) (s : Sp), F.l[k]? = some s ∧ s.pos ≤ pos ∧ pos < s.pos + s.many ∧ e = .returned (.tuple #[.int .i64 s.shard, .int .i64 s.seg, .int .u64 (s.off + pos - s.pos), .int .i64 0])) ∧ FoldW W p w' N F := by
  have hm : ∀ s ∈ L, 0 < s.many := fun s hs => (hd.ok s hs).1
  obtain ⟨k, s, hk, hs1, hs2⟩ := posSp_find hm 0 (p := pos) (by omega) (by rw [Int.zero_add, ← hd.n]; exact hp1)
  have hso := posSp_sorted hm 0
  rw [← hd.l] at hk hso
  obtain ⟨y, hy, e1, e2, e3, e4⟩ := posSp_mem 0 (hd.l ▸ List.mem_of_getElem? hk)
  have h1 := posSp_bounds hm 0 s (hd.l ▸ List.mem_of_getElem? hk)
  have h2 := hd.ok y hy
  have h3 := hb y hy
  refine (h.find hp0 hp1 (by rw [hd.l, posSp_len]; exact hl) (fun a b p q hab ha hb => ?_) hk hs1 (fun j x hj hx => ?_) ⟨by omega, h1.1, by omega⟩).mono fun e w' ⟨g1, g2⟩ => ⟨⟨k, s, hk, hs1, hs2, g1⟩, g2⟩
  · have h4 := hso a b p q hab ha hb
    obtain ⟨z, hz, f1, f2, f3, f4⟩ := posSp_mem 0 (hd.l ▸ List.mem_of_getElem? ha)
    have := hm z hz
    omega
  · have := hso k j s x hj hk hx
    omega
end Go.Proofs.Ytabanackdjlcmaa
