/-
  Two states side by side.
-/
import Derived.Test.YtabanackdjlcmaaFErrS
import Derived.Test.YtabanackdjlcmaaSpans
import Derived.Test.YtabanackdjlcmaaShards2
import Derived.Test.YtabanackdjlcmaaCmA
import Derived.Laws.StructEq
namespace Go.Proofs.Ytabanackdjlcmaa
open Go.ChangeShapes Go.WideShapes Go.ChangeAt Go.RowKit Go.Maps
set_option maxRecDepth 100000

/-- A state, as a thing. -/
def obFd (p : Value) (D : Nat → Prop) (N : Nat) (F : FS) : Ob := ⟨D, fun w => FoldO p D w N F⟩
theorem obFd_good (p : Value) (D : Nat → Prop) (N : Nat) (F : FS) : (obFd p D N F).Good :=
  ⟨fun {S w w'} h hk hs => by obtain ⟨b0, bs, bt, n, lv, h1, h2, h3⟩ := h; exact ⟨b0, bs, bt, n, lv, h1, h2.keep hk hs, h3⟩, fun {w} h k hk => FoldO.lt h k hk⟩
/-- Two states that the call has made. -/
def FoldTwo (W : World) (p q : Value) (w : World) (N M : Nat) (F G : FS) : Prop := ∃ D E, Sep W.heap.size w [obFd p D N F, obFd q E M G] ∧ Below W.heap.size W w
section
variable {W w w' : World} {p q : Value} {N M : Nat} {F G : FS}
theorem FoldTwo.below (h : FoldTwo W p q w N M F G) : Below W.heap.size W w := by obtain ⟨_, _, _, hb⟩ := h; exact hb
theorem FoldTwo.swap (h : FoldTwo W p q w N M F G) : FoldTwo W q p w M N G F := by
  obtain ⟨D, E, h1, h2⟩ := h
  exact ⟨E, D, h1.perm (List.Perm.swap _ _ _), h2⟩
theorem FoldTwo.step (h : FoldTwo W p q w N M F G) (hb : Below w.heap.size w w') : FoldTwo W p q w' N M F G := by
  obtain ⟨D, E, h1, h2⟩ := h
  exact ⟨D, E, h1.step hb, h2.trans (hb.mono h2.size)⟩
theorem FoldTwo.one (h : FoldTwo W p q w N M F G) : FoldW W p w N F := by
  obtain ⟨D, E, h1, h2⟩ := h
  exact ⟨D, h1.get 0 rfl, fun k hk => h1.base _ (List.mem_cons_self ..) k hk, h2⟩
theorem FoldTwo.more (h : FoldTwo W p q w N M F G) {N' M' : Nat} (h1 : N ≤ N') (h2 : M ≤ M') : FoldTwo W p q w N' M' F G := by
  obtain ⟨D, E, hs, hb⟩ := h
  refine ⟨D, E, ⟨?_, ?_, ?_, ?_, hs.size⟩, hb⟩
  · intro o ho; simp at ho; rcases ho with rfl | rfl <;> exact obFd_good ..
  · intro o ho
    simp at ho
    rcases ho with rfl | rfl
    · obtain ⟨b0, bs, bt, n, lv, g1, g2, g3⟩ := hs.get 0 rfl; exact ⟨b0, bs, bt, n, lv, g1, g2, by omega⟩
    · obtain ⟨b0, bs, bt, n, lv, g1, g2, g3⟩ := hs.get 1 rfl; exact ⟨b0, bs, bt, n, lv, g1, g2, by omega⟩
  · intro o ho k hk
    simp at ho
    rcases ho with rfl | rfl
    · exact hs.base (obFd p D N F) (by simp) k hk
    · exact hs.base (obFd q E M G) (by simp) k hk
  · have := hs.apart
    simp only [List.pairwise_cons, List.mem_singleton, forall_eq, List.not_mem_nil, false_implies, implies_true, List.Pairwise.nil, and_true] at this ⊢
    exact this
theorem two_start {w1 w2 : World} {p q : Value} {N M : Nat} {F G : FS} (h : FoldW W p w1 N F) (hb : Below w1.heap.size w1 w2) {E : Nat → Prop} (hq : FoldO q E w2 M G) (hE : ∀ k, E k → w1.heap.size ≤ k) : FoldTwo W p q w2 N M F G := by
  obtain ⟨D, h1, h2, h3⟩ := h
  have hs : Sep W.heap.size w1 [obFd p D N F] := ⟨by intro o ho; simp at ho; subst ho; exact obFd_good .., by intro o ho; simp at ho; subst ho; exact h1, by intro o ho k hk; simp at ho; subst ho; exact h2 k hk, List.pairwise_singleton _ _, h3.size⟩
  have h4 := hs.new (o := obFd q E M G) hb (obFd_good ..) hq hE
  exact ⟨D, E, h4.perm (List.Perm.swap _ _ _), h3.trans (hb.mono h3.size)⟩
theorem FoldTwo.apply (h : FoldTwo W p q w N M F G) {c : Cm} {v : Value} (hv : RowsL W v c.rows) (hl : c.rows.length ≤ 1000000) (hc : CmOk c) (hFl : F.l.length ≤ 1000000000) (hN : N ≤ 900000) :
    Calls Try.prog 25 #[p, cmV c v] w fun e w' => e = .returned (.int .i64 (applyE F c)) ∧ FoldTwo W p q w' (N + 10) M (applyF F c) G := by
  obtain ⟨D, E, h1, h2⟩ := h
  have h0 : FoldO p D w N F := h1.get 0 rfl
  have hD : ∀ k, D k → W.heap.size ≤ k := fun k hk => h1.base (obFd p D N F) (by simp) k hk
  refine (h0.apply (v := v) (c := c) (fun w' hk => hv.below (h2.trans (hk.below h2.size hD)) (Nat.le_refl _)) hl hc hFl hN).mono ?_
  rintro e w' ⟨rfl, D', hf, hm⟩
  exact ⟨rfl, D', E, h1.head hm.keep (obFd_good ..) hf (fun k hk => hm.new k hk), h2.trans (hm.keep.below h2.size hD)⟩
end
theorem neqSq (s : Sp) (w : World) : (binOp .neq 60 (spV s) (spV s)).run Try.prog w = Result.ok (.bool false) w := by
  have u3 := Try.underlying3
  have u4 := Try.underlying39
  have hS : Try.prog.underlying 60 = some (.struct (Try.prog.fieldsOf 60)) := by kernel_rfl
  have hp : Try.prog.stoodInHeld 60 = false := by kernel_rfl
  rw [run_neq_struct, show (10000 : Nat) = 9999 + 1 from rfl, run_equalIn_agg w 9999 60 _ _ hS hp]
  simp only [Program.fieldsOf, Try.underlying60]
  go_simp
theorem Twin.shL {F G : FS} (h : Twin F G) : (shL G).length = (shL F).length := by rw [h.same]; rfl
theorem Twin.rest {F G : FS} (h : Twin F G) : G.l = F.l ∧ G.n = F.n ∧ G.low = F.low := by rw [h.same]; exact ⟨rfl, rfl, rfl⟩
theorem CmL.at {w : World} {ao : Option Addr} {n c : Nat} {L : List Cm} (h : CmL w (.slice ao n c) L) (k : Nat) (x : Cm) (hx : L[k]? = some x) : ∃ a, ao = some a ∧ CmAt w a k x := by
  obtain ⟨a', c', hv, _, _, h3⟩ := h
  cases hv
  exact h3 k x hx
theorem CmL.form {w : World} {v : Value} {L : List Cm} (h : CmL w v L) : ∃ ao c, v = .slice ao L.length c ∧ L.length ≤ c ∧ c ≤ 9223372036854775807 := by
  obtain ⟨a', c', hv, h1, h2, h3⟩ := h
  exact ⟨a', c', hv, h1, h2⟩
/-- A command of the caller's: its cells and rows, whatever the call has done since. -/
theorem CmL.far {W : World} {ao : Option Addr} {n c : Nat} {L : List Cm} (h : CmL W (.slice ao n c) L) (k : Nat) (x : Cm) (hx : L[k]? = some x) : ∃ a rv, ao = some a ∧ RowsL W rv x.rows ∧ ∀ w, Below W.heap.size W w →
    (w.cell? (a.add (k * 7)) = some (.int .i64 x.op) ∧ w.cell? ⟨(a.add (k * 7)).block, (a.add (k * 7)).off + 1, none⟩ = some (.int .u64 x.client) ∧ w.cell? ⟨(a.add (k * 7)).block, (a.add (k * 7)).off + 2, none⟩ = some (.int .u64 x.seq) ∧
    w.cell? ⟨(a.add (k * 7)).block, (a.add (k * 7)).off + 3, none⟩ = some (.int .i64 x.shard) ∧ w.cell? ⟨(a.add (k * 7)).block, (a.add (k * 7)).off + 4, none⟩ = some (.int .i64 x.segs) ∧ w.cell? ⟨(a.add (k * 7)).block, (a.add (k * 7)).off + 5, none⟩ = some (.int .u64 x.pos) ∧ w.cell? ⟨(a.add (k * 7)).block, (a.add (k * 7)).off + 6, none⟩ = some rv) := by
  obtain ⟨a, ha, rv, c0, c1, c2, c3, c4, c5, c6, hr⟩ := h.at k x hx
  refine ⟨a, rv, ha, hr, fun w hb => ?_⟩
  have go : ∀ {p : Addr} {u : Value}, W.cell? p = some u → w.cell? p = some u := fun {p u} hc => by rw [hb.cell (World.block_lt_of_cell? W _ hc)]; exact hc
  exact ⟨go c0, go c1, go c2, go c3, go c4, go c5, go c6⟩
end Go.Proofs.Ytabanackdjlcmaa
