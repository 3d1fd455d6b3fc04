/-
  Package dedup: Get, as far as it leaves all as it was.
-/
import Derived.Test.YtdmfladjhjpafaaNumS
namespace Go.Proofs.Ytdmfladjhjpafaa
open Go.ChangeShapes Go.WideShapes Go.ChangeAt Go.RowKit Go.Maps
set_option maxRecDepth 1000000

/-- An entry of a client, and an error's number. -/
def RetDg (r0 : RS) (w : World) (e : Ending) (w' : World) : Prop :=
  ∃ c s ao l cap code, e = .returned (.tuple #[.agg #[.int .u64 c, .int .u64 s, .slice ao l cap], .int .i64 code]) ∧ Below w.heap.size w w' ∧
    code = rEnd (rB 1024 (rU (rU r0).1).1).1 ∧ (code = 0 → c = (rU r0).2 ∧ s = (rU (rU r0).1).2 ∧ SlR w' (.slice ao l cap) (u8s (rB 1024 (rU (rU r0).1).1).2)) ∧ ∀ k, (Value.slice ao l cap).ownBlock = some k → w.heap.size ≤ k
set_option maxHeartbeats 2000000 in
theorem dget_any {w : World} {sv : Value} {xs : List Int} (hs : SlR w sv (u8s xs)) (h8 : U8 xs) (hl : xs.length ≤ 1000000000) : Calls Try.prog 21 #[sv] w (RetDg ⟨xs, 0⟩ w) := by
  have hz1 : (w.alloc (.cells #[.int .u64 0, .int .u64 0, .slice none 0 0] 66)).heap.size = w.heap.size + 1 := by simp
  have h0 := (SepW.nil (Below.refl w.heap.size w)).newBlk #[.int .u64 0, .int .u64 0, .slice none 0 0] 66
  obtain ⟨so, sc, rfl, _, _⟩ := hs.form
  have HS0 := Lib.hid h0
  have HSl := Lib.hid (hs.below (below_lit w (.cells #[.int .u64 0, .int .u64 0, .slice none 0 0] 66)) (Nat.le_refl _))
  have H8 := Lib.hid h8
  clear hs h0 h8
  simp only [List.length_map] at *
  go_enter Try.func21, Try.ntmps21
  go_wp2_with fail
  refine (HS0.out.rdNew HSl.out H8.out hl).mono ?_
  rintro e w1 ⟨b0, D, rfl, hs1⟩
  have HS1 := Lib.hid (hs1.newBlk #[.int .u64 0, .int .u64 0, .slice none 0 0] 66)
  clear hs1
  go_wp2_with fail
  refine (HS1.out.rdUint 1 rfl).mono ?_
  rintro e w2 ⟨rfl, hs2⟩
  obtain ⟨q, hq⟩ : ∃ q, rU ⟨xs, 0⟩ = q := ⟨_, rfl⟩
  rw [hq] at hs2 ⊢
  have HQ := Lib.hid hq
  obtain ⟨q1, q2⟩ := q
  simp only at hs2 ⊢
  have hs3 := hs2.blkSet 0 rfl 0 (.int .u64 q2)
  obtain ⟨x0, z0⟩ := hs2.blk 0 rfl 0 _ rfl
  have HS3 : Hid (SepW w (w2.setCell ⟨w1.heap.size, 0, none⟩ (.int .u64 q2)) [obBlk w1.heap.size (.cells #[.int .u64 q2, .int .u64 0, .slice none 0 0] 66), obRd (.pointer (some ⟨b0, 0, none⟩)) D q1, obBlk w.heap.size (.cells #[.int .u64 0, .int .u64 0, .slice none 0 0] 66)]) := Lib.hid (by simpa using hs3)
  clear hs2 hs3 hq
  go_wp2_with fail
  refine (HS3.out.rdUint 1 rfl).mono ?_
  rintro e w4 ⟨rfl, hs4⟩
  obtain ⟨p, hp⟩ : ∃ p, rU q1 = p := ⟨_, rfl⟩
  rw [hp] at hs4 ⊢
  have HP := Lib.hid hp
  obtain ⟨p1, p2⟩ := p
  simp only at hs4 ⊢
  have hs5 := hs4.blkSet 0 rfl 1 (.int .u64 p2)
  obtain ⟨x1, z1⟩ := hs4.blk 0 rfl 1 _ rfl
  have HS5 : Hid (SepW w (w4.setCell ⟨w1.heap.size, 1, none⟩ (.int .u64 p2)) [obBlk w1.heap.size (.cells #[.int .u64 q2, .int .u64 p2, .slice none 0 0] 66), obRd (.pointer (some ⟨b0, 0, none⟩)) D p1, obBlk w.heap.size (.cells #[.int .u64 0, .int .u64 0, .slice none 0 0] 66)]) := Lib.hid (by simpa using hs5)
  clear hs4 hs5 hp x0 z0
  go_wp2_with fail
  refine (HS5.out.rdBytes 1 rfl (most := 1024) (by decide)).mono ?_
  rintro e w6 ⟨bo, bc, rfl, hs6⟩
  obtain ⟨k, hk⟩ : ∃ k, rB (1024 : Nat) p1 = k := ⟨_, rfl⟩
  rw [hk] at hs6 ⊢
  have HK := Lib.hid hk
  obtain ⟨k1, k2⟩ := k
  simp only at hs6 ⊢
  have hs7 := hs6.blkSet 1 rfl 2 (.slice bo k2.length bc)
  obtain ⟨x2, z2⟩ := hs6.blk 1 rfl 2 _ rfl
  have HS7 : Hid (SepW w (w6.setCell ⟨w1.heap.size, 2, none⟩ (.slice bo k2.length bc)) [obRow (.slice bo k2.length bc) 5 1 k2.length (u8s k2), obBlk w1.heap.size (.cells #[.int .u64 q2, .int .u64 p2, .slice bo k2.length bc] 66), obRd (.pointer (some ⟨b0, 0, none⟩)) D k1, obBlk w.heap.size (.cells #[.int .u64 0, .int .u64 0, .slice none 0 0] 66)]) := Lib.hid (by simpa using hs7)
  clear hs6 hs7 hk x1 z1
  go_wp2_with fail
  refine (HS7.out.rdEnd 2 rfl).mono ?_
  rintro e w8 ⟨rfl, rfl⟩
  have hfin : rEnd (rB 1024 (rU (rU ⟨xs, 0⟩).1).1).1 = rEnd k1 := by rw [HQ.out]; simp only; rw [HP.out]; simp only; rw [show rB 1024 p1 = (k1, k2) from HK.out]
  have HFin := Lib.hid hfin
  clear hfin x2 z2
  obtain ⟨⟨e0, y0⟩, ⟨e1, y1⟩, ⟨e2, y2⟩⟩ := And.intro (HS7.out.blk 3 rfl 0 _ rfl) (And.intro (HS7.out.blk 3 rfl 1 _ rfl) (HS7.out.blk 3 rfl 2 _ rfl))
  obtain ⟨⟨f0, _⟩, ⟨f1, _⟩, ⟨f2, _⟩⟩ := And.intro (HS7.out.blk 1 rfl 0 _ rfl) (And.intro (HS7.out.blk 1 rfl 1 _ rfl) (HS7.out.blk 1 rfl 2 _ rfl))
  by_cases he : rEnd k1 = 0
  · have hb : (rEnd k1 != 0) = false := by simp [he]
    have HE := Lib.hid he
    clear he
    generalize w6.setCell ⟨w1.heap.size, 2, none⟩ (.slice bo k2.length bc) = W at *
    go_wp2_with fail
    have hs9 := HS7.out.blkSet3 3 rfl (.int .u64 q2) (.int .u64 p2) (.slice bo k2.length bc)
    generalize ((W.setCell ⟨w.heap.size, 0, none⟩ (.int .u64 q2)).setCell ⟨w.heap.size, 1, none⟩ (.int .u64 p2)).setCell ⟨w.heap.size, 2, none⟩ (.slice bo k2.length bc) = W9 at *
    obtain ⟨s0, _⟩ := hs9.blk 3 rfl 0 _ rfl
    obtain ⟨s1, _⟩ := hs9.blk 3 rfl 1 _ rfl
    obtain ⟨s2, _⟩ := hs9.blk 3 rfl 2 _ rfl
    refine bodyPost_ret (v := .tuple #[.agg #[.int .u64 q2, .int .u64 p2, .slice bo k2.length bc], .int .i64 (0)]) (by simp [results, Try.results21, go_sem, s0, s1, s2]) rfl ?_
    exact ⟨_, _, _, _, _, _, rfl, hs9.below, by rw [HFin.out, HE.out], fun _ => ⟨by rw [HQ.out], by rw [HQ.out]; simp only; rw [HP.out], by rw [HQ.out]; simp only; rw [HP.out]; simp only; rw [show rB 1024 p1 = (k1, k2) from HK.out]; exact hs9.row 0 rfl⟩, fun k hk => (hs9.sep.lt 0 rfl k hk).1⟩
  · have hb : (rEnd k1 != 0) = true := by simp [he]
    have HE := Lib.hid he
    clear he
    generalize w6.setCell ⟨w1.heap.size, 2, none⟩ (.slice bo k2.length bc) = W at *
    go_wp2_with fail
    have hs9 := HS7.out.blkSet3 3 rfl (.int .u64 0) (.int .u64 0) (.slice none 0 0)
    generalize ((W.setCell ⟨w.heap.size, 0, none⟩ (.int .u64 0)).setCell ⟨w.heap.size, 1, none⟩ (.int .u64 0)).setCell ⟨w.heap.size, 2, none⟩ (.slice none 0 0) = W9 at *
    obtain ⟨s0, _⟩ := hs9.blk 3 rfl 0 _ rfl
    obtain ⟨s1, _⟩ := hs9.blk 3 rfl 1 _ rfl
    obtain ⟨s2, _⟩ := hs9.blk 3 rfl 2 _ rfl
    refine bodyPost_ret (v := .tuple #[.agg #[.int .u64 0, .int .u64 0, .slice none 0 0], .int .i64 (rEnd k1)]) (by simp [results, Try.results21, go_sem, s0, s1, s2]) rfl ?_
    exact ⟨_, _, _, _, _, _, rfl, hs9.below, HFin.out.symm, fun h => absurd h HE.out, fun k hk => by cases hk⟩
end Go.Proofs.Ytdmfladjhjpafaa
