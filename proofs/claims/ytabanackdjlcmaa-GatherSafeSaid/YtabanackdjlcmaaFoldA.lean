/-
  The laws' own example of package fold.
-/
import Derived.Test.YtabanackdjlcmaaFold8
namespace Go.Proofs.Ytabanackdjlcmaa
open Go.ChangeShapes Go.WideShapes Go.ChangeAt Go.RowKit Go.Maps
set_option maxRecDepth 100000

theorem FoldO.lt {p : Value} {D : Nat → Prop} {w : World} {N : Nat} {F : FS} (h : FoldO p D w N F) : ∀ k, D k → k < w.heap.size := by
  obtain ⟨b0, bs, bt, n, lv, rfl, h2, h3⟩ := h; exact h2.lt
/-- One row, typed out. -/
theorem RowsD.lit {w : World} {D : Nat → Prop} (hD : ∀ k, D k → k < w.heap.size) (id : Int) {xs : List Int} {cs : Array Value} (hc : cs.toList = u64s xs) (hl : xs.length ≤ 1000) :
    RowsD D ((w.alloc (.cells cs 39)).alloc (.cells #[.int .i64 id, .slice (some ⟨w.heap.size, 0, none⟩) xs.length xs.length] 37)) (.slice (some ⟨w.heap.size + 1, 0, none⟩) 1 1) [(id, xs)] := by
  have h1 : (w.alloc (.cells cs 39)).heap.size = w.heap.size + 1 := by simp
  have hb := heap_alloc_new (w.alloc (.cells cs 39)) (.cells #[.int .i64 id, .slice (some ⟨w.heap.size, 0, none⟩) xs.length xs.length] 37)
  rw [h1] at hb
  refine RowsD.one (t := 37) hb ?_ (fun hd => by have := hD _ hd; omega) (fun k hk hd => by cases hk; have := hD _ hd; simp at this)
  have hz : (u64s xs).length = xs.length := by simp
  refine ⟨some ⟨w.heap.size, 0, none⟩, xs.length, by rw [hz], by rw [hz]; exact Nat.le_refl _, by unfold maxLen; omega, fun i u hi => ⟨_, rfl, ?_⟩⟩
  refine World.news_of_block (cs := cs) (t := 39) (fr := (0, 0)) ?_ i u (by rw [hc]; exact hi)
  rw [Below.heap_alloc _ _ _ (by simp)]
  exact heap_alloc_new w _

def aw1 : FS := addR emptyFS 0 2
def aw2 : FS := cutR aw1 [(0, [2, 1])]
theorem aw_e1 : addE emptyFS 0 = 0 := rfl
theorem aw_e2 : cutE aw1 [(0, [2, 1])] = 0 := by decide
theorem aw_2 : aw2 = cutF aw1 [(0, [2, 1])] := by unfold aw2 cutR; rw [if_pos aw_e2]
theorem aw_l : aw2.l = [⟨0, 0, 0, 0, 2⟩, ⟨2, 0, 1, 0, 1⟩] := by rw [aw_2]; rfl
theorem aw_n : aw2.n = 3 ∧ aw2.low = 0 := by rw [aw_2]; exact ⟨by decide, rfl⟩
theorem aw_s : aw2.sh 0 = some ⟨0, 2, [2, 1], false⟩ := by rw [aw_2]; rfl
theorem aw_e3 : addE aw2 0 = 31 := by unfold addE; rw [aw_s]

/-- A state that the call itself has made. -/
def FoldW (W : World) (p : Value) (w : World) (N : Nat) (F : FS) : Prop := ∃ D, FoldO p D w N F ∧ (∀ k, D k → W.heap.size ≤ k) ∧ Below W.heap.size W w
theorem FoldW.below {W w : World} {p : Value} {N : Nat} {F : FS} (h : FoldW W p w N F) : Below W.heap.size W w := by obtain ⟨D, _, _, hb⟩ := h; exact hb
theorem FoldW.ptr {W w : World} {p : Value} {N : Nat} {F : FS} (h : FoldW W p w N F) : ∃ b0, p = .pointer (some ⟨b0, 0, none⟩) := by obtain ⟨D, h, _⟩ := h; exact h.ptr
theorem FoldW.step {W w w' : World} {p : Value} {N : Nat} {F : FS} (h : FoldW W p w N F) (hb : Below w.heap.size w w') : FoldW W p w' N F := by
  obtain ⟨D, h1, h2, h3⟩ := h
  exact ⟨D, h1.step hb, h2, h3.trans (hb.mono h3.size)⟩
theorem FoldW.mono {W w : World} {p : Value} {N M : Nat} {F : FS} (h : FoldW W p w N F) (hm : N ≤ M) : FoldW W p w M F := by
  obtain ⟨D, ⟨b0, bs, bt, n, lv, h1, h2, h3⟩, h4, h5⟩ := h
  exact ⟨D, ⟨b0, bs, bt, n, lv, h1, h2, by omega⟩, h4, h5⟩
theorem FoldW.moved {W w w' : World} {p : Value} {M : Nat} {D D' : Nat → Prop} {F' : FS} (hD : ∀ k, D k → W.heap.size ≤ k) (hb : Below W.heap.size W w) (hf : FoldO p D' w' M F') (hm : Moved D D' w w') : FoldW W p w' M F' := by
  obtain ⟨h1, h2⟩ := hm.below hD hb.size
  exact ⟨D', hf, h2, hb.trans h1⟩
theorem fnew_w (W w : World) (hb : Below W.heap.size W w) : Calls Try.prog 24 #[] w fun e w' => ∃ b0, e = .returned (.pointer (some ⟨b0, 0, none⟩)) ∧ FoldW W (.pointer (some ⟨b0, 0, none⟩)) w' 0 emptyFS :=
  (fnew_o w).mono fun e w' ⟨p, D, h1, h2, h3, h4⟩ => by
    obtain ⟨b0, rfl⟩ := h2.ptr
    exact ⟨b0, h1, D, h2, fun k hk => Nat.le_trans hb.size (h3 k hk), hb.trans (h4.mono hb.size)⟩
theorem FoldW.len {W w : World} {p : Value} {N : Nat} {F : FS} (h : FoldW W p w N F) : Calls Try.prog 26 #[p] w fun e w' => e = .returned (.int .u64 F.n) ∧ w = w' := by obtain ⟨D, h, _⟩ := h; exact h.len
theorem FoldW.low {W w : World} {p : Value} {N : Nat} {F : FS} (h : FoldW W p w N F) : Calls Try.prog 28 #[p] w fun e w' => e = .returned (.int .u64 F.low) ∧ w = w' := by obtain ⟨D, h, _⟩ := h; exact h.low
theorem FoldW.added {W w : World} {p : Value} {N : Nat} {F : FS} (h : FoldW W p w N F) {shard : Int} {sg : Nat} (hs0 : 0 ≤ shard ∧ shard < 8) (hs1 : 1 ≤ sg) (hs4 : sg ≤ 4) (hN : N < 1000000) :
    Calls Try.prog 25 #[p, .agg #[.int .i64 1, .int .u64 0, .int .u64 0, .int .i64 shard, .int .i64 sg, .int .u64 0, .slice none 0 0]] w fun e w' => e = .returned (.int .i64 (addE F shard)) ∧ FoldW W p w' (N + 1) (addR F shard sg) := by
  obtain ⟨D, h1, h2, h3⟩ := h
  exact (h1.added hs0 hs1 hs4 hN).mono fun e w' ⟨g1, D', g2, g3⟩ => ⟨g1, FoldW.moved h2 h3 g2 g3⟩
theorem FoldW.trim {W w : World} {p : Value} {N : Nat} {F : FS} (h : FoldW W p w N F) {pos : Int} (hp : 0 ≤ pos) :
    Calls Try.prog 25 #[p, .agg #[.int .i64 3, .int .u64 0, .int .u64 0, .int .i64 0, .int .i64 0, .int .u64 pos, .slice none 0 0]] w fun e w' => e = .returned (.int .i64 (trimE F pos)) ∧ FoldW W p w' N (trimR F pos) := by
  obtain ⟨D, h1, h2, h3⟩ := h
  exact (h1.trimmed2 hp).mono fun e w' ⟨g1, D', g2, g3⟩ => ⟨g1, FoldW.moved h2 h3 g2 g3⟩
theorem RowsD.sub {D D' : Nat → Prop} {w : World} {v : Value} {rs : Rw} (h : RowsD D' w v rs) (hD : ∀ k, D k → D' k) : RowsD D w v rs := fun w' hk => h w' (hk.mono (fun k _ hs => hD k hs))
/-- A cut of rows that were made behind the state's last turn. -/
theorem FoldW.cut {W w0 w : World} {p : Value} {N : Nat} {F : FS} (h : FoldW W p w0 N F) (hb : Below w0.heap.size w0 w) {v : Value} {rs : Rw} (hv : RowsD (fun k => k < w0.heap.size) w v rs) (hl : rs.length ≤ 8) (hok : rowsB rs = true) (hu : ∀ r ∈ rs, U64 r.2) (hFl : F.l.length ≤ 1000000000) (hN : N ≤ 900000000) :
    Calls Try.prog 25 #[p, .agg #[.int .i64 4, .int .u64 0, .int .u64 0, .int .i64 0, .int .i64 0, .int .u64 0, v]] w fun e w' => e = .returned (.int .i64 (cutE F rs)) ∧ FoldW W p w' (N + 9) (cutR F rs) := by
  have hs := h.step hb
  obtain ⟨D, h1, h2, h3⟩ := h
  exact ((h1.step hb).cut (hv.sub h1.lt) hl hok hu hFl hN).mono fun e w' ⟨g1, D', g2, g3⟩ => ⟨g1, FoldW.moved h2 hs.below g2 g3⟩
theorem FoldW.seal {W w0 w : World} {p : Value} {N : Nat} {F : FS} (h : FoldW W p w0 N F) (hb : Below w0.heap.size w0 w) {id : Int} (hid : 0 ≤ id ∧ id < 8) {v : Value} {rs : Rw} (hv : RowsD (fun k => k < w0.heap.size) w v rs) (hl : rs.length ≤ 8) (hok : rowsB rs = true) (hu : ∀ r ∈ rs, U64 r.2) (hsame : ∀ r ∈ rs, r.1 = id) (hFl : F.l.length ≤ 1000000000) (hN : N ≤ 900000000) :
    Calls Try.prog 25 #[p, .agg #[.int .i64 2, .int .u64 0, .int .u64 0, .int .i64 id, .int .i64 0, .int .u64 0, v]] w fun e w' => e = .returned (.int .i64 (sealE F id rs)) ∧ FoldW W p w' (N + 9) (sealR F id rs) := by
  have hs := h.step hb
  obtain ⟨D, h1, h2, h3⟩ := h
  exact ((h1.step hb).seal hid (hv.sub h1.lt) hl hok hu hsame hFl hN).mono fun e w' ⟨g1, D', g2, g3⟩ => ⟨g1, FoldW.moved h2 hs.below g2 g3⟩
theorem FoldW.later {W w : World} {p : Value} {N : Nat} {F : FS} (h : FoldW W p w N F) {pos : Int} (hp : F.n ≤ pos) :
    Calls Try.prog 27 #[p, .int .u64 pos] w fun e w' => e = .returned (.tuple #[.int .i64 0, .int .i64 0, .int .u64 0, .int .i64 36]) ∧ w = w' := by obtain ⟨D, h, _⟩ := h; exact h.later hp
theorem FoldW.gone {W w : World} {p : Value} {N : Nat} {F : FS} (h : FoldW W p w N F) {pos : Int} (hp : pos < F.low) :
    Calls Try.prog 27 #[p, .int .u64 pos] w fun e w' => e = .returned (.tuple #[.int .i64 0, .int .i64 0, .int .u64 0, .int .i64 35]) ∧ w = w' := by obtain ⟨D, h, _⟩ := h; exact h.trimmed hp
theorem FoldW.find {W w : World} {p : Value} {N : Nat} {F : FS} (h : FoldW W p w N F) {pos : Int} (hp0 : F.low ≤ pos) (hp1 : pos < F.n) (hl : F.l.length ≤ 1000000)
    (hsort : ∀ (a b : Nat) (p q : Sp), a < b → F.l[a]? = some p → F.l[b]? = some q → p.pos < q.pos) {k : Nat} {s : Sp} (hk : F.l[k]? = some s) (hs1 : s.pos ≤ pos) (hs2 : ∀ (j : Nat) (x : Sp), k < j → F.l[j]? = some x → pos < x.pos) (hs3 : 0 ≤ s.off ∧ 0 ≤ s.pos ∧ s.off + pos ≤ 18446744073709551615) :
    Calls Try.prog 27 #[p, .int .u64 pos] w fun e w' => e = .returned (.tuple #[.int .i64 s.shard, .int .i64 s.seg, .int .u64 (s.off + pos - s.pos), .int .i64 0]) ∧ FoldW W p w' N F :=
  by obtain ⟨D, h1, h2, h3⟩ := id h; exact (h1.find hp0 hp1 hl hsort hk hs1 hs2 hs3).mono fun e w' ⟨g1, g2⟩ => ⟨g1, h.step g2⟩
theorem FoldW.place {W w : World} {p : Value} {N : Nat} {F : FS} (h : FoldW W p w N F) {shard seg off : Int} (hi : IdOk shard) {s : Sh} (hs : F.sh shard = some s) (hs0 : 0 ≤ seg) (hs1 : seg < s.segs) (ho : 0 ≤ off ∧ off ≤ 18446744073709551615) (hl : F.l.length ≤ 1000000000)
    (hx : ∀ x ∈ F.l, 0 ≤ x.off) {k : Nat} {x : Sp} (hk : F.l[k]? = some x) (hh : spHit shard seg off x = true) (hno : ∀ (j : Nat) (y : Sp), j < k → F.l[j]? = some y → spHit shard seg off y = false) (hp : 0 ≤ x.pos ∧ x.pos + off ≤ 18446744073709551615) :
    Calls Try.prog 33 #[p, .int .i64 shard, .int .i64 seg, .int .u64 off] w fun e w' => e = .returned (.tuple #[.int .u64 (x.pos + off - x.off), .int .i64 0]) ∧ FoldW W p w' N F :=
  by obtain ⟨D, h1, h2, h3⟩ := id h; exact (h1.place hi hs hs0 hs1 ho hl hx hk hh hno hp).mono fun e w' ⟨g1, g2⟩ => ⟨g1, h.step g2⟩

set_option maxHeartbeats 2000000 in
theorem fawake_any (w : World) : Calls Try.prog 23 #[] w fun e w' => e = .returned (.bool true) ∧ Below w.heap.size w w' := by
  go_enter Try.func23, Try.ntmps23
  go_wp2_with fail
  refine (fnew_w w w (Below.refl _ _)).mono ?_
  rintro e w1 ⟨b0, rfl, hf1⟩
  have HF1 := Lib.hid hf1
  clear hf1
  go_wp2_with fail
  refine (HF1.out.added (shard := 0) (sg := 2) (by decide) (by decide) (by decide) (by decide)).mono ?_
  rintro e w2 ⟨rfl, hf2⟩
  rw [aw_e1]
  have HF2 : Hid (FoldW w (.pointer (some ⟨b0, 0, none⟩)) w2 1 aw1) := Lib.hid hf2
  have HA := Lib.hid (((Below.refl w2.heap.size w2).alloc (Nat.le_refl _) (.cells #[.int .u64 2, .int .u64 1] 39)).alloc (by simp) (.cells #[.int .i64 0, .slice (some ⟨w2.heap.size, 0, none⟩) 2 2] 37))
  have HR := Lib.hid (RowsD.lit (w := w2) (D := fun k => k < w2.heap.size) (fun k hk => hk) 0 (xs := [2, 1]) (cs := #[.int .u64 2, .int .u64 1]) rfl (by decide))
  clear hf2
  go_wp2_with fail
  refine (HF2.out.cut HA.out HR.out (by decide) (by decide) (by intro r hr; simp at hr; subst hr; intro x hx; simp at hx; omega) (by decide) (by decide)).mono ?_
  rintro e w3 ⟨rfl, hf3⟩
  rw [aw_e2]
  have HF3 : Hid (FoldW w (.pointer (some ⟨b0, 0, none⟩)) w3 10 aw2) := Lib.hid hf3
  clear hf3 HF2 HR HA
  go_wp2_with fail
  refine (HF3.out.find (pos := 2) (k := 1) (s := ⟨2, 0, 1, 0, 1⟩) (by rw [aw_n.2]; decide) (by rw [aw_n.1]; decide) (by rw [aw_l]; decide) (by
    rw [aw_l]
    intro a b p q hab ha hb
    match a, b, hab with
    | 0, 1, _ => simp at ha hb; subst ha hb; decide
    | 0, b + 2, _ => simp at hb
    | a + 1, b + 2, _ => simp at hb) (by rw [aw_l]; rfl) (by decide) (by
    rw [aw_l]
    intro j x hj hx
    match j, hj with
    | j + 2, _ => simp at hx) (by decide)).mono ?_
  rintro e w4 ⟨rfl, hf4⟩
  have HF4 := Lib.hid hf4
  clear hf4 HF3
  go_wp2_with fail
  refine (HF4.out.place (shard := 0) (seg := 0) (off := 1) ⟨by decide, by decide⟩ aw_s (by decide) (by decide) ⟨by decide, by decide⟩ (by rw [aw_l]; decide) (by rw [aw_l]; intro x hx; simp at hx; rcases hx with rfl | rfl <;> decide) (k := 0) (x := ⟨0, 0, 0, 0, 2⟩) (by rw [aw_l]; rfl) (by decide) (by intro j y hj; omega) (by decide)).mono ?_
  rintro e w5 ⟨rfl, hf5⟩
  have HF5 := Lib.hid hf5
  clear hf5 HF4
  go_wp2_with fail
  refine (HF5.out.later (pos := 3) (by rw [aw_n.1]; decide)).mono ?_
  rintro e w6 ⟨rfl, rfl⟩
  go_wp2_with fail
  refine (HF5.out.len).mono ?_
  rintro e w6 ⟨rfl, rfl⟩
  rw [aw_n.1]
  go_wp2_with fail
  refine (HF5.out.added (shard := 0) (sg := 2) (by decide) (by decide) (by decide) (by decide)).mono ?_
  rintro e w7 ⟨rfl, hf7⟩
  rw [aw_e3]
  have HB := Lib.hid hf7.below
  clear hf7
  go_wp2_with fail
  go_ret
  exact ⟨by first | rfl | simp, HB.out⟩
end Go.Proofs.Ytabanackdjlcmaa
