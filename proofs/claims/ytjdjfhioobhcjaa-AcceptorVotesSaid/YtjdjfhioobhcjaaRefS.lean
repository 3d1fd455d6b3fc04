/-
  The document's reader: ReadBytes, End.
-/
import Derived.Test.YtjdjfhioobhcjaaRefR
namespace Go.Proofs.Ytjdjfhioobhcjaa
open Go.ChangeShapes Go.WideShapes Go.ChangeAt Go.RowKit Go.Maps
set_option maxRecDepth 100000

set_option maxHeartbeats 2000000 in
theorem sreadB_any {r : RS} (h8 : U8 r.b) (hl : r.b.length ≤ 1000000000) {most : Nat} (hm : most ≤ 1000000000) (w : World) : Calls Try.prog 70 #[rR r, .int .i64 most] w (RetRR (rB most r) w) := by
  have hR := fun w => Lib.hid (sread_any h8 hl w)
  obtain ⟨hx0, hx1⟩ := rU_bd h8 hl
  have hlb := rU_le r
  have hB : rB most r = if (rU r).1.e ≠ 0 then ((rU r).1, []) else if (rU r).2 > most then (rFail 13 (rU r).1, []) else rTake (rU r).2.toNat (rU r).1 := rfl
  obtain ⟨res, hres⟩ : ∃ res, rB most r = res := ⟨_, rfl⟩
  rw [hres] at hB ⊢
  clear hres
  unfold RetRU at hR
  obtain ⟨l0, er0⟩ := r
  unfold rR at hR ⊢
  simp only at hR hlb hl ⊢
  generalize rU ⟨l0, er0⟩ = q at *
  obtain ⟨⟨r1b, r1e⟩, x⟩ := q
  simp only at hR hx0 hx1 hlb hB
  have hwm : IntKind.u64.wrap (most : Int) = (most : Int) := IntWalk.u64_in _ (by omega)
  have hm0 : decide ((most : Int) < 0) = false := decide_eq_false (by omega)
  clear h8
  have hfin : ∀ (q : RS × List Int) (w2 : World) (os : List Ob), SepW w w2 (obBlk (w.heap.size + 1) (.cells #[.string (strB q.1.b), .int .i64 q.1.e] 136) :: os) → w2.cell? ⟨w.heap.size + 1, 0, none⟩ = some (.string (strB q.1.b)) ∧ w2.cell? ⟨w.heap.size + 1, 1, none⟩ = some (.int .i64 q.1.e) ∧ RetRR q w (.returned (.tuple #[rR q.1, .string (strB q.2)])) w2 :=
    fun q w2 os h => ⟨(h.blk 0 rfl 0 _ rfl).1, (h.blk 0 rfl 1 _ rfl).1, rfl, h.below⟩
  have HFin := Lib.hid hfin
  have HB := Lib.hid hB
  clear hfin hB
  go_enter Try.func70, Try.ntmps70
  go_wp2_with fail
  refine (hR _).out.mono ?_
  rintro e w1 ⟨rfl, hb1⟩
  have hz : (w.alloc (.cells #[.string (strB l0), .int .i64 er0] 136)).heap.size = w.heap.size + 1 := by simp
  have hs0 := (((SepW.nil (Below.refl w.heap.size w)).newBlk #[.string (strB l0), .int .i64 er0] 136).newBlk #[.string ⟨#[]⟩, .int .i64 0] 136)
  rw [hz] at hs0
  have hs1 := hs0.step hb1
  obtain ⟨x0, z0⟩ := hs1.blk 1 rfl 0 _ rfl
  obtain ⟨x1, z1⟩ := hs1.blk 1 rfl 1 _ rfl
  have hs2 := (hs1.blkSet 1 rfl 0 (.string (strB r1b))).blkSet 1 rfl 1 (.int .i64 r1e)
  have HS2 : Hid (SepW w ((w1.setCell ⟨w.heap.size, 0, none⟩ (.string (strB r1b))).setCell ⟨w.heap.size, 1, none⟩ (.int .i64 r1e)) [obBlk (w.heap.size + 1) (.cells #[.string ⟨#[]⟩, .int .i64 0] 136), obBlk w.heap.size (.cells #[.string (strB r1b), .int .i64 r1e] 136)]) := Lib.hid (by simpa using hs2)
  clear hs0 hs1 hs2 hb1 hz hR
  obtain ⟨y0, _⟩ := HS2.out.blk 1 rfl 0 _ rfl
  obtain ⟨y1, _⟩ := HS2.out.blk 1 rfl 1 _ rfl
  obtain ⟨t0, u0⟩ := HS2.out.blk 0 rfl 0 _ rfl
  obtain ⟨t1, u1⟩ := HS2.out.blk 0 rfl 1 _ rfl
  by_cases he : r1e = 0
  · have hb : (r1e != 0) = false := by simp [he]
    by_cases hgt : x > most
    · have hgd : decide ((most : Int) < x) = true := decide_eq_true hgt
      have hres : res = (⟨r1b, 13⟩, []) := by
        rw [HB.out, if_neg (by simp [he]), if_pos hgt]; simp [rFail, he]
      have HRes := Lib.hid hres
      clear hres he
      go_wp2_with fail
      have hs3 := ((HS2.out.blkSet 1 rfl 1 (.int .i64 13)).blkSet 0 rfl 0 (.string (strB r1b))).blkSet 0 rfl 1 (.int .i64 13)
      simp at hs3
      generalize ((((w1.setCell ⟨w.heap.size, 0, none⟩ (.string (strB r1b))).setCell ⟨w.heap.size, 1, none⟩ (.int .i64 r1e)).setCell ⟨w.heap.size, 1, none⟩ (.int .i64 13)).setCell ⟨w.heap.size + 1, 0, none⟩ (.string (strB r1b))).setCell ⟨w.heap.size + 1, 1, none⟩ (.int .i64 13) = W4 at *
      obtain ⟨s0, s1, hr⟩ := HFin.out (⟨r1b, 13⟩, []) W4 _ hs3
      simp only at s0 s1
      refine bodyPost_ret (v := .tuple #[.agg #[.string (strB r1b), .int .i64 13], .string (strB [])]) (by simp [results, Try.results70, go_sem, s0, s1, strB]) rfl ?_
      rw [HRes.out]
      exact hr
    · have hgd : decide ((most : Int) < x) = false := decide_eq_false hgt
      have hwx : IntKind.i64.wrap x = x := IntWalk.i64_in _ (by omega)
      have hres : res = rTake x.toNat ⟨r1b, r1e⟩ := by rw [HB.out, if_neg (by simp [he]), if_neg hgt]
      have hraw : (if (⟨r1b, r1e⟩ : RS).e ≠ 0 then ((⟨r1b, r1e⟩ : RS), []) else rRaw x ⟨r1b, r1e⟩) = res := by
        rw [if_neg (by simp [he]), hres]; unfold rRaw; rw [if_neg (by omega)]
      have hR2 := fun w => Lib.hid (sraw_any (r := ⟨r1b, r1e⟩) (n := x) (by show r1b.length ≤ 1000000000; omega) w)
      rw [hraw] at hR2
      unfold RetRR rR at hR2
      simp only at hR2
      obtain ⟨⟨r2b, r2e⟩, d⟩ := res
      simp only at hR2
      clear hres hraw he HB
      go_wp2_with fail
      refine (hR2 _).out.mono ?_
      rintro e w5 ⟨rfl, hb5⟩
      have hs5 := HS2.out.step hb5
      obtain ⟨p0, q0⟩ := hs5.blk 0 rfl 0 _ rfl
      obtain ⟨p1, q1⟩ := hs5.blk 0 rfl 1 _ rfl
      have HS5 := Lib.hid hs5
      clear hs5 hb5 hR2
      go_wp2_with fail
      have hs3 := (HS5.out.blkSet 0 rfl 0 (.string (strB r2b))).blkSet 0 rfl 1 (.int .i64 r2e)
      simp at hs3
      generalize (w5.setCell ⟨w.heap.size + 1, 0, none⟩ (.string (strB r2b))).setCell ⟨w.heap.size + 1, 1, none⟩ (.int .i64 r2e) = W4 at *
      obtain ⟨s0, s1, hr⟩ := HFin.out (⟨r2b, r2e⟩, d) W4 _ hs3
      simp only at s0 s1
      refine bodyPost_ret (v := .tuple #[.agg #[.string (strB r2b), .int .i64 r2e], .string (strB d)]) (by simp [results, Try.results70, go_sem, s0, s1]) rfl ?_
      exact hr
  · have hb : (r1e != 0) = true := by simp [he]
    have hres : res = (⟨r1b, r1e⟩, []) := by rw [HB.out, if_pos he]
    have HRes := Lib.hid hres
    clear he hres
    go_wp2_with fail
    have hs3 := (HS2.out.blkSet 0 rfl 0 (.string (strB r1b))).blkSet 0 rfl 1 (.int .i64 r1e)
    simp at hs3
    generalize (((w1.setCell ⟨w.heap.size, 0, none⟩ (.string (strB r1b))).setCell ⟨w.heap.size, 1, none⟩ (.int .i64 r1e)).setCell ⟨w.heap.size + 1, 0, none⟩ (.string (strB r1b))).setCell ⟨w.heap.size + 1, 1, none⟩ (.int .i64 r1e) = W4 at *
    obtain ⟨s0, s1, hr⟩ := HFin.out (⟨r1b, r1e⟩, []) W4 _ hs3
    simp only at s0 s1
    refine bodyPost_ret (v := .tuple #[.agg #[.string (strB r1b), .int .i64 r1e], .string (strB [])]) (by simp [results, Try.results70, go_sem, s0, s1, strB]) rfl ?_
    rw [HRes.out]
    exact hr
theorem send_any (r : RS) (w : World) : Calls Try.prog 71 #[rR r] w fun e w' => e = .returned (.int .i64 (rEnd r)) ∧ Below w.heap.size w w' := by
  obtain ⟨l, er⟩ := r
  unfold rR rEnd
  simp only
  have hb1 := (Below.refl w.heap.size w).alloc (Nat.le_refl _) (.cells #[.string (strB l), .int .i64 er] 136)
  have hse : (strB l).toList.isEmpty = l.isEmpty := by rw [ByteArray.toList_eq, strB_list]; cases l <;> rfl
  by_cases he : er = 0
  · have hb : (er == 0) = true := by simp [he]
    rw [if_neg (by simp [he])]
    by_cases hl : l.length > 0
    · rw [if_pos hl]
      have hse2 : (strB l).toList.isEmpty = false := by rw [hse]; cases l with | nil => simp at hl | cons a b => rfl
      clear hse he
      go_enter Try.func71, Try.ntmps71
      go_wp2
      go_ret
      exact ⟨rfl, hb1⟩
    · rw [if_neg hl]
      have hse2 : (strB l).toList.isEmpty = true := by rw [hse]; cases l with | nil => rfl | cons a b => simp at hl
      subst he
      clear hse
      go_enter Try.func71, Try.ntmps71
      go_wp2
      go_ret
      exact ⟨rfl, hb1⟩
  · have hb : (er == 0) = false := by simp [he]
    rw [if_pos he]
    clear he
    go_enter Try.func71, Try.ntmps71
    go_wp2
    go_ret
    exact ⟨rfl, hb1⟩
end Go.Proofs.Ytjdjfhioobhcjaa
