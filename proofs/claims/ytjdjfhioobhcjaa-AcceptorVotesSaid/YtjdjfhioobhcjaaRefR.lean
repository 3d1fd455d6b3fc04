/-
  The document's reader: Raw, Read, ReadBytes, End.
-/
import Derived.Test.YtjdjfhioobhcjaaRefN
import Derived.Test.YtjdjfhioobhcjaaGetP
import Derived.Test.YtjdjfhioobhcjaaSepB
namespace Go.Proofs.Ytjdjfhioobhcjaa
open Go.ChangeShapes Go.WideShapes Go.ChangeAt Go.RowKit Go.Maps
set_option maxRecDepth 100000

/-- The document's reader. -/
def rR (r : RS) : Value := .agg #[.string (strB r.b), .int .i64 r.e]
theorem strB_take (l : List Int) (n : Nat) : (strB l).extract 0 n = strB (l.take n) := by
  apply ByteArray.ext
  simp [strB, ByteArray.data_extract]
theorem strB_drop (l : List Int) (n : Nat) : (strB l).extract n (strB l).size = strB (l.drop n) := by
  have h := strB_size l
  apply ByteArray.ext
  apply Array.toList_inj.1
  simp [strB, ByteArray.data_extract]
  rw [List.take_of_length_le]
  simp [ByteArray.size]
theorem strB_at {l : List Int} {i n : Nat} (h8 : n ≤ 255) (h : l[i]? = some (n : Int)) (p : i < (strB l).size) : ((strB l)[i]'p).toNat = n := by
  have e : (strB l).data.toList[i]? = some (UInt8.ofNat n) := by rw [strB_list, List.getElem?_map, h]; simp
  have e2 : (strB l)[i]'p = UInt8.ofNat n := by
    have h3 : (strB l).data[i]? = some (UInt8.ofNat n) := by simpa using e
    have h4 := (Array.getElem?_eq_some_iff.1 h3).2
    exact h4
  rw [e2, UInt8.toNat_ofNat']
  omega
/-- What comes of a read of bytes. -/
def RetRR (q : RS × List Int) (w : World) (e : Ending) (w' : World) : Prop := e = .returned (.tuple #[rR q.1, .string (strB q.2)]) ∧ Below w.heap.size w w'
set_option maxHeartbeats 1000000 in
theorem sraw_any {r : RS} {n : Int} (hl : r.b.length ≤ 1000000000) (w : World) : Calls Try.prog 86 #[rR r, .int .i64 n] w (RetRR (if r.e ≠ 0 then (r, []) else rRaw n r) w) := by
  obtain ⟨l, er⟩ := r
  simp only at *
  unfold rR
  simp only
  have hsz := strB_size l
  have hb1 := (Below.refl w.heap.size w).alloc (Nat.le_refl _) (.cells #[.string (strB l), .int .i64 er] 136)
  have fin : ∀ (l : List Int) (e1 : Int) (w2 : World), w2 = (w.alloc (.cells #[.string (strB l), .int .i64 e1] 136)).alloc (.cells #[.string (strB l), .int .i64 e1] 136) → w2.cell? ⟨w.heap.size + 1, 0, none⟩ = some (.string (strB l)) ∧ w2.cell? ⟨w.heap.size + 1, 1, none⟩ = some (.int .i64 e1) ∧ Below w.heap.size w w2 := by
    intro l e1 w2 e
    subst e
    have hk := heap_alloc_new (w.alloc (.cells #[.string (strB l), .int .i64 e1] 136)) (.cells #[.string (strB l), .int .i64 e1] 136)
    rw [show (w.alloc (.cells #[.string (strB l), .int .i64 e1] 136)).heap.size = w.heap.size + 1 by simp] at hk
    exact ⟨World.news_of_block hk 0 _ rfl, World.news_of_block hk 1 _ rfl, ((Below.refl _ _).alloc (Nat.le_refl _) _).alloc (by simp) _⟩
  have HFin := Lib.hid fin
  clear fin hb1
  by_cases he : er = 0
  · have hb : (er != 0) = false := by simp [he]
    rw [if_neg (by simp [he])]
    unfold rRaw
    by_cases h0 : n < 0
    · rw [if_pos h0]
      have hF : rFail 1 (⟨l, er⟩ : RS) = ⟨l, 1⟩ := by simp [rFail, he]
      rw [hF]
      clear he hF
      go_enter Try.func86, Try.ntmps86
      go_wp2_with fail
      obtain ⟨W4, HW4⟩ : ∃ x, x = (w.alloc (.cells #[.string (strB l), .int .i64 1] 136)).alloc (.cells #[.string (strB l), .int .i64 1] 136) := ⟨_, rfl⟩
      rw [← HW4]
      obtain ⟨s0, s1, hb⟩ := HFin.out l 1 W4 HW4
      refine bodyPost_ret (v := .tuple #[.agg #[.string (strB l), .int .i64 1], .string (strB [])]) (by simp [results, Try.results86, go_sem, s0, s1, strB]) rfl ?_
      exact ⟨rfl, hb⟩
    · rw [if_neg h0]
      obtain ⟨m, rfl⟩ := Int.eq_ofNat_of_zero_le (show 0 ≤ n by omega)
      rw [Int.toNat_natCast]
      have hd0 : decide ((m : Int) < 0) = false := decide_eq_false (by omega)
      by_cases hm : m ≤ l.length
      · have hT : rTake m (⟨l, er⟩ : RS) = (⟨l.drop m, 0⟩, l.take m) := by unfold rTake; rw [if_neg (by simp [he]), if_neg (by simp; omega)]
        rw [hT]
        have hd1 : decide ((l.length : Int) < (m : Int)) = false := decide_eq_false (by omega)
        have hd2 : decide (l.length < m) = false := decide_eq_false (by omega)
        have hE : er = 0 := he
        have HE := Lib.hid hE
        have HX1 := Lib.hid (strB_take l m)
        have HX2 : Hid ((strB l).extract m l.length = strB (l.drop m)) := Lib.hid (by have := strB_drop l m; rwa [strB_size] at this)
        clear he hT h0 hE
        go_enter Try.func86, Try.ntmps86
        go_wp2_with fail
        rw [HX1.out, HX2.out]
        obtain ⟨W4, HW4⟩ : ∃ x, x = (w.alloc (.cells #[.string (strB (l.drop m)), .int .i64 er] 136)).alloc (.cells #[.string (strB (l.drop m)), .int .i64 er] 136) := ⟨_, rfl⟩
        rw [← HW4]
        obtain ⟨s0, s1, hb⟩ := HFin.out (l.drop m) er W4 HW4
        refine bodyPost_ret (v := .tuple #[.agg #[.string (strB (l.drop m)), .int .i64 er], .string (strB (l.take m))]) (by simp [results, Try.results86, go_sem, s0, s1]) rfl ?_
        exact ⟨by rw [HE.out]; rfl, hb⟩
      · have hT : rTake m (⟨l, er⟩ : RS) = (⟨l, 10⟩, []) := by unfold rTake; rw [if_neg (by simp [he]), if_pos (by simp; omega)]
        rw [hT]
        have hlt : l.length < m := by omega
        have hlti : (l.length : Int) < (m : Int) := by omega
        clear he hT hm h0
        go_enter Try.func86, Try.ntmps86
        go_wp2_with fail
        obtain ⟨W4, HW4⟩ : ∃ x, x = (w.alloc (.cells #[.string (strB l), .int .i64 10] 136)).alloc (.cells #[.string (strB l), .int .i64 10] 136) := ⟨_, rfl⟩
        rw [← HW4]
        obtain ⟨s0, s1, hb⟩ := HFin.out l 10 W4 HW4
        refine bodyPost_ret (v := .tuple #[.agg #[.string (strB l), .int .i64 10], .string (strB [])]) (by simp [results, Try.results86, go_sem, s0, s1, strB]) rfl ?_
        exact ⟨rfl, hb⟩
  · have hb : (er != 0) = true := by simp [he]
    rw [if_pos he]
    clear he
    go_enter Try.func86, Try.ntmps86
    go_wp2_with fail
    obtain ⟨W4, HW4⟩ : ∃ x, x = (w.alloc (.cells #[.string (strB l), .int .i64 er] 136)).alloc (.cells #[.string (strB l), .int .i64 er] 136) := ⟨_, rfl⟩
    rw [← HW4]
    obtain ⟨s0, s1, hb⟩ := HFin.out l er W4 HW4
    refine bodyPost_ret (v := .tuple #[.agg #[.string (strB l), .int .i64 er], .string (strB [])]) (by simp [results, Try.results86, go_sem, s0, s1, strB]) rfl ?_
    exact ⟨rfl, hb⟩
/-- What comes of a read of a number. -/
def RetRU (q : RS × Int) (w : World) (e : Ending) (w' : World) : Prop := e = .returned (.tuple #[rR q.1, .int .u64 q.2]) ∧ Below w.heap.size w w'
set_option maxHeartbeats 2000000 in
theorem sread_any {r : RS} (h8 : U8 r.b) (hl : r.b.length ≤ 1000000000) (w : World) : Calls Try.prog 69 #[rR r] w (RetRU (rU r) w) := by
  have hR := fun w => Lib.hid (sraw_any (r := r) (n := 1) hl w)
  have e1 : (if r.e ≠ 0 then (r, []) else rRaw 1 r) = rTake 1 r := by
    by_cases he : r.e = 0
    · rw [if_neg (by simp [he])]; unfold rRaw; rw [if_neg (by decide)]; rfl
    · rw [if_pos he, rTake_err he]
  rw [e1] at hR
  unfold rU
  obtain ⟨g1, g2, g3, g4⟩ := rTake_b (n := 1) h8 hl
  have hone : ((rTake 1 r).2 = [] ∧ (rTake 1 r).1.e ≠ 0) ∨ (∃ h, (rTake 1 r).2 = [h] ∧ (rTake 1 r).1.e = 0) := by
    unfold rTake
    by_cases he : r.e = 0
    · rw [if_neg (by simp [he])]
      by_cases hb : r.b.length < 1
      · rw [if_pos hb]; exact Or.inl ⟨rfl, by simp⟩
      · rw [if_neg hb]
        cases hc : r.b with
        | nil => rw [hc] at hb; simp at hb
        | cons x t => exact Or.inr ⟨x, rfl, rfl⟩
    · rw [if_pos he]; exact Or.inl ⟨rfl, he⟩
  unfold RetRR at hR
  obtain ⟨l0, er0⟩ := r
  unfold rR at hR ⊢
  simp only at hR ⊢
  generalize (rTake 1 ⟨l0, er0⟩).2 = l1 at *
  generalize (rTake 1 ⟨l0, er0⟩).1 = r1 at *
  obtain ⟨r1b, r1e⟩ := r1
  simp only at *
  clear e1 h8 hl
  go_enter Try.func69, Try.ntmps69
  go_wp2_with fail
  refine (hR _).out.mono ?_
  rintro e w1 ⟨rfl, hb1⟩
  have hz : (w.alloc (.cells #[.string (strB l0), .int .i64 er0] 136)).heap.size = w.heap.size + 1 := by simp
  have hs0 := (((SepW.nil (Below.refl w.heap.size w)).newBlk #[.string (strB l0), .int .i64 er0] 136).newBlk #[.string ⟨#[]⟩, .int .i64 0] 136)
  rw [hz] at hs0
  have hs1 := hs0.step hb1
  obtain ⟨x0, z0⟩ := hs1.blk 1 rfl 0 _ rfl
  obtain ⟨x1, z1⟩ := hs1.blk 1 rfl 1 _ rfl
  have hs2 := (hs1.blkSet 1 rfl 0 (.string (strB r1b))).blkSet 1 rfl 1 (.int .i64 r1e)
  have HS2 : Hid (SepW w ((w1.setCell ⟨w.heap.size, 0, none⟩ (.string (strB r1b))).setCell ⟨w.heap.size, 1, none⟩ (.int .i64 r1e)) [obBlk (w.heap.size + 1) (.cells #[.string ⟨#[]⟩, .int .i64 0] 136), obBlk w.heap.size (.cells #[.string (strB r1b), .int .i64 r1e] 136)]) := Lib.hid (by simpa using hs2)
  clear hs0 hs1 hs2 hb1 hz
  obtain ⟨y0, _⟩ := HS2.out.blk 1 rfl 0 _ rfl
  obtain ⟨y1, _⟩ := HS2.out.blk 1 rfl 1 _ rfl
  obtain ⟨t0, u0⟩ := HS2.out.blk 0 rfl 0 _ rfl
  obtain ⟨t1, u1⟩ := HS2.out.blk 0 rfl 1 _ rfl
  have hfin : ∀ (q : RS × Int) (w2 : World) (os : List Ob), SepW w w2 (obBlk (w.heap.size + 1) (.cells #[.string (strB q.1.b), .int .i64 q.1.e] 136) :: os) → w2.cell? ⟨w.heap.size + 1, 0, none⟩ = some (.string (strB q.1.b)) ∧ w2.cell? ⟨w.heap.size + 1, 1, none⟩ = some (.int .i64 q.1.e) ∧ RetRU q w (.returned (.tuple #[rR q.1, .int .u64 q.2])) w2 :=
    fun q w2 os h => ⟨(h.blk 0 rfl 0 _ rfl).1, (h.blk 0 rfl 1 _ rfl).1, rfl, h.below⟩
  have HFin := Lib.hid hfin
  clear hfin
  rcases hone with ⟨rfl, he⟩ | ⟨h, rfl, he⟩
  · have hb : (r1e != 0) = true := by simp [he]
    clear he
    go_wp2_with fail
    have hs3 := (HS2.out.blkSet 0 rfl 0 (.string (strB r1b))).blkSet 0 rfl 1 (.int .i64 r1e)
    simp at hs3
    generalize (((w1.setCell ⟨w.heap.size, 0, none⟩ (.string (strB r1b))).setCell ⟨w.heap.size, 1, none⟩ (.int .i64 r1e)).setCell ⟨w.heap.size + 1, 0, none⟩ (.string (strB r1b))).setCell ⟨w.heap.size + 1, 1, none⟩ (.int .i64 r1e) = W4 at *
    obtain ⟨s0, s1, hr⟩ := HFin.out (rUA [] ⟨r1b, r1e⟩) W4 _ hs3
    simp only [rUA] at s0 s1
    refine bodyPost_ret (v := .tuple #[.agg #[.string (strB r1b), .int .i64 r1e], .int .u64 0]) (by simp [results, Try.results69, go_sem, s0, s1]) rfl ?_
    exact hr
  · have hb : (r1e != 0) = false := by simp [he]
    obtain ⟨hh0, hh1⟩ := g3 h (by simp)
    obtain ⟨n, rfl⟩ := Int.eq_ofNat_of_zero_le hh0
    have hsz1 := strB_size [(n : Int)]
    have hg1 : ∀ p : 0 < (strB [(n : Int)]).size, ((strB [(n : Int)])[0]'p).toNat = n := strB_at (by omega) rfl
    simp only [List.length_cons, List.length_nil] at hsz1
    generalize strB [(n : Int)] = sh at *
    by_cases h9 : 8 < n
    · have h9i : (8 : Int) < (n : Int) := by omega
      have hR9 : rUA [(n : Int)] ⟨r1b, r1e⟩ = (⟨r1b, 11⟩, 0) := by simp [rUA, rFail, he]; omega
      have HR9 := Lib.hid hR9
      clear hR9 he
      go_wp2_with fail
      have hs3 := ((HS2.out.blkSet 1 rfl 1 (.int .i64 11)).blkSet 0 rfl 0 (.string (strB r1b))).blkSet 0 rfl 1 (.int .i64 11)
      simp at hs3
      generalize ((((w1.setCell ⟨w.heap.size, 0, none⟩ (.string (strB r1b))).setCell ⟨w.heap.size, 1, none⟩ (.int .i64 r1e)).setCell ⟨w.heap.size, 1, none⟩ (.int .i64 11)).setCell ⟨w.heap.size + 1, 0, none⟩ (.string (strB r1b))).setCell ⟨w.heap.size + 1, 1, none⟩ (.int .i64 11) = W4 at *
      obtain ⟨s0, s1, hr⟩ := HFin.out (⟨r1b, 11⟩, 0) W4 _ hs3
      simp only at s0 s1
      refine bodyPost_ret (v := .tuple #[.agg #[.string (strB r1b), .int .i64 11], .int .u64 0]) (by simp [results, Try.results69, go_sem, s0, s1]) rfl ?_
      rw [HR9.out]
      exact hr
    · have h9i : decide ((8 : Int) < (n : Int)) = false := decide_eq_false (by omega)
      have h9n : decide (8 < n) = false := decide_eq_false h9
      have hR9 : rUA [(n : Int)] ⟨r1b, r1e⟩ = rUB (rTake n ⟨r1b, r1e⟩).2 (rTake n ⟨r1b, r1e⟩).1 := by simp [rUA]; omega
      have HR9 := Lib.hid hR9
      have hR2 := fun w => Lib.hid (sraw_any (r := ⟨r1b, r1e⟩) (n := (n : Int)) g2 w)
      have e2 : (if (⟨r1b, r1e⟩ : RS).e ≠ 0 then ((⟨r1b, r1e⟩ : RS), []) else rRaw (n : Int) ⟨r1b, r1e⟩) = rTake n ⟨r1b, r1e⟩ := by
        rw [if_neg (by simp [he])]; unfold rRaw; rw [if_neg (by omega), Int.toNat_natCast]
      rw [e2] at hR2
      unfold RetRR rR at hR2
      obtain ⟨k1, k2, k3, k4⟩ := rTake_b (n := n) (r := ⟨r1b, r1e⟩) g1 g2
      have k5 := rTake_few (n := n) (r := ⟨r1b, r1e⟩)
      have hcz : (rTake n ⟨r1b, r1e⟩).1.e ≠ 0 → (rTake n ⟨r1b, r1e⟩).2 = [] := by
        unfold rTake
        rw [if_neg (by simp [he])]
        split
        · intro _; rfl
        · intro h; exact absurd rfl h
      generalize (rTake n ⟨r1b, r1e⟩).2 = d at *
      generalize (rTake n ⟨r1b, r1e⟩).1 = r2 at *
      obtain ⟨r2b, r2e⟩ := r2
      simp only at k1 k2 hR2 hcz
      clear e2 hR9 he
      go_wp2_with fail
      generalize (w1.setCell ⟨w.heap.size, 0, none⟩ (.string (strB r1b))).setCell ⟨w.heap.size, 1, none⟩ (.int .i64 r1e) = w2 at *
      have HX : Hid (∀ w5 : World, Below w2.drew.heap.size w2.drew w5 → w5.cell? ⟨w.heap.size, 0, none⟩ = some (.string (strB r1b)) ∧ w5.frozen? ⟨w.heap.size, 0, none⟩ = false ∧ w5.cell? ⟨w.heap.size, 1, none⟩ = some (.int .i64 r1e) ∧ w5.frozen? ⟨w.heap.size, 1, none⟩ = false) := Lib.hid fun w5 hb5 => by
        have hs5 := (HS2.out.drew).step hb5
        obtain ⟨x0, z0⟩ := hs5.blk 1 rfl 0 _ rfl
        obtain ⟨x1, z1⟩ := hs5.blk 1 rfl 1 _ rfl
        exact ⟨x0, z0, x1, z1⟩
      have hwn : IntKind.i64.wrap (n : Int) = (n : Int) := IntWalk.i64_in _ (by omega)
      go_region_with (first | (go_at_call 86; (with_reducible refine (hR2 _).out.mono ?_); rintro e w5 ⟨rfl, hb5⟩; obtain ⟨x0, z0, x1, z1⟩ := HX.out w5 hb5; have HB5 := Lib.hid hb5; clear hb5))
      all_goals
        have hs5 := (HS2.out.drew).step HB5.out
        have hs6 := (hs5.blkSet 1 rfl 0 (.string (strB r2b))).blkSet 1 rfl 1 (.int .i64 r2e)
        have HS6 : Hid (SepW w ((w5.setCell ⟨w.heap.size, 0, none⟩ (.string (strB r2b))).setCell ⟨w.heap.size, 1, none⟩ (.int .i64 r2e)) [obBlk (w.heap.size + 1) (.cells #[.string ⟨#[]⟩, .int .i64 0] 136), obBlk w.heap.size (.cells #[.string (strB r2b), .int .i64 r2e] 136)]) := Lib.hid (by simpa using hs6)
        clear hs5 hs6 HB5 HX HS2 hR hR2 y0 y1 t0 t1 u0 u1 x0 z0 x1 z1
        obtain ⟨y0, _⟩ := HS6.out.blk 1 rfl 0 _ rfl
        obtain ⟨y1, v1⟩ := HS6.out.blk 1 rfl 1 _ rfl
        obtain ⟨t0, u0⟩ := HS6.out.blk 0 rfl 0 _ rfl
        obtain ⟨t1, u1⟩ := HS6.out.blk 0 rfl 1 _ rfl
        by_cases he2 : r2e = 0
        · have hb2 : (r2e != 0) = false := by simp [he2]
          have HE2 := Lib.hid he2
          clear he2
          go_wp2_with fail
          generalize (w5.setCell ⟨w.heap.size, 0, none⟩ (.string (strB r2b))).setCell ⟨w.heap.size, 1, none⟩ (.int .i64 r2e) = w6 at *
          have hsd := strB_size d
          have hsa : ∀ (k y : Nat), y ≤ 255 → d[k]? = some (y : Int) → ∀ p : k < (strB d).size, ((strB d)[k]'p).toNat = y := fun k y h1 h2 => strB_at h1 h2
          have HSA := Lib.hid hsa
          have HK3 := Lib.hid k3
          have hdl8 : d.length ≤ 8 := by omega
          have hse : (strB d).toList.isEmpty = d.isEmpty := by
            rw [ByteArray.toList_eq, strB_list]; cases d <;> rfl
          clear hsa k3
          generalize strB d = sd at *
          go_loop [6, 7] (fun x i => ∃ k : Nat, k ≤ d.length ∧ i = .int .i64 k ∧ x = .int .u64 (val (d.take k))) (fun _ i => d.length - (intOf i).toNat)
          case atStart => exact ⟨0, by omega, rfl, rfl⟩
          case round =>
            obtain ⟨k, hk, rfl, rfl⟩ := hrel
            by_cases hlt : k < d.length
            · have hki : (k : Int) < (d.length : Int) := by omega
              obtain ⟨y, hy⟩ : ∃ y, d[k]? = some y := ⟨_, List.getElem?_eq_getElem hlt⟩
              obtain ⟨hy0, hy1⟩ := HK3.out y (List.mem_of_getElem? hy)
              obtain ⟨y, rfl⟩ := Int.eq_ofNat_of_zero_le hy0
              have hyg := HSA.out k y (by omega) hy
              have hts : d.take (k + 1) = d.take k ++ [(y : Int)] := by
                obtain ⟨q1, q2⟩ := List.getElem?_eq_some_iff.1 hy
                rw [List.take_succ_eq_append_getElem q1, q2]
              have hvs : val (d.take (k + 1)) = val (d.take k) * 256 + y := by rw [hts, val_snoc]
              have hvb := val_bd (l := d.take k) (fun z hz => HK3.out z (List.mem_of_mem_take hz))
              have hv0 := hvb.1
              have hv1 : val (d.take k) < 72057594037927936 := by
                have h1 := hvb.2
                have h2 : (d.take k).length ≤ 7 := by rw [List.length_take]; omega
                have h3 := pow_le7 h2
                omega
              have HVs := Lib.hid hvs
              clear hts hvs hvb hy
              generalize val (d.take k) = vk at *
              go_wp2_with fail
              go_round
              case rel => exact ⟨k + 1, by omega, by go_num, by rw [HVs.out]⟩
              case measure => simp [intOf]; omega
            · have hkl : k = d.length := by omega
              have hT : d.take k = d := by rw [hkl, List.take_length]
              have hdk : decide ((k : Int) < (d.length : Int)) = false := decide_eq_false (by omega)
              have HT := Lib.hid hT
              clear hkl hT
              rcases (show d = [] ∨ ∃ c l, d = c :: l by cases d with | nil => exact Or.inl rfl | cons c l => exact Or.inr ⟨c, l, rfl⟩) with hdn | ⟨c, l, hdc⟩
              · subst hdn
                go_wp2_with fail
                have hs3 := (HS6.out.blkSet 0 rfl 0 (.string (strB r2b))).blkSet 0 rfl 1 (.int .i64 r2e)
                simp at hs3
                generalize (w6.setCell ⟨w.heap.size + 1, 0, none⟩ (.string (strB r2b))).setCell ⟨w.heap.size + 1, 1, none⟩ (.int .i64 r2e) = W4 at *
                obtain ⟨s0, s1, hr⟩ := HFin.out (⟨r2b, r2e⟩, val []) W4 _ hs3
                simp only at s0 s1
                refine bodyPost_ret (v := .tuple #[.agg #[.string (strB r2b), .int .i64 r2e], .int .u64 (val [])]) (by simp [results, Try.results69, go_sem, s0, s1]) rfl ?_
                rw [HR9.out]
                exact hr
              · rw [HT.out]
                obtain ⟨hc0, hc1⟩ := HK3.out c (by rw [hdc]; simp)
                obtain ⟨y, rfl⟩ := Int.eq_ofNat_of_zero_le hc0
                have hyg := HSA.out 0 y (by omega) (by rw [hdc]; rfl)
                have hpos : 0 < d.length := by rw [hdc]; simp
                have hposi : 0 < (d.length : Int) := by omega
                have hse2 : sd.toList.isEmpty = false := by rw [hse, hdc]; rfl
                have HDc := Lib.hid hdc
                clear hse hdc
                by_cases hc : y = 0
                · subst hc
                  have hRB : rUB d ⟨r2b, r2e⟩ = (⟨r2b, 11⟩, 0) := by rw [HDc.out]; simp [rUB, rFail, HE2.out]
                  have HRB := Lib.hid hRB
                  clear hRB
                  go_wp2_with fail
                  have hs3 := ((HS6.out.blkSet 1 rfl 1 (.int .i64 11)).blkSet 0 rfl 0 (.string (strB r2b))).blkSet 0 rfl 1 (.int .i64 11)
                  simp at hs3
                  generalize ((w6.setCell ⟨w.heap.size, 1, none⟩ (.int .i64 11)).setCell ⟨w.heap.size + 1, 0, none⟩ (.string (strB r2b))).setCell ⟨w.heap.size + 1, 1, none⟩ (.int .i64 11) = W4 at *
                  obtain ⟨s0, s1, hr⟩ := HFin.out (⟨r2b, 11⟩, 0) W4 _ hs3
                  simp only at s0 s1
                  refine bodyPost_ret (v := .tuple #[.agg #[.string (strB r2b), .int .i64 11], .int .u64 0]) (by simp [results, Try.results69, go_sem, s0, s1]) rfl ?_
                  rw [HR9.out, HRB.out]
                  exact hr
                · have hyb : ((y : Int) == 0) = false := by rw [beq_eq_false_iff_ne]; omega
                  have hRB : rUB d ⟨r2b, r2e⟩ = (⟨r2b, r2e⟩, val d) := by rw [HDc.out]; simp [rUB]; omega
                  have HRB := Lib.hid hRB
                  clear hRB
                  go_wp2_with fail
                  have hs3 := (HS6.out.blkSet 0 rfl 0 (.string (strB r2b))).blkSet 0 rfl 1 (.int .i64 r2e)
                  simp at hs3
                  generalize (w6.setCell ⟨w.heap.size + 1, 0, none⟩ (.string (strB r2b))).setCell ⟨w.heap.size + 1, 1, none⟩ (.int .i64 r2e) = W4 at *
                  obtain ⟨s0, s1, hr⟩ := HFin.out (⟨r2b, r2e⟩, val d) W4 _ hs3
                  simp only at s0 s1
                  refine bodyPost_ret (v := .tuple #[.agg #[.string (strB r2b), .int .i64 r2e], .int .u64 (val d)]) (by simp [results, Try.results69, go_sem, s0, s1]) rfl ?_
                  rw [HR9.out, HRB.out]
                  exact hr
        · have hb2 : (r2e != 0) = true := by simp [he2]
          have hd := hcz he2
          subst hd
          clear he2
          go_wp2_with fail
          have hs3 := (HS6.out.blkSet 0 rfl 0 (.string (strB r2b))).blkSet 0 rfl 1 (.int .i64 r2e)
          simp at hs3
          generalize (((w5.setCell ⟨w.heap.size, 0, none⟩ (.string (strB r2b))).setCell ⟨w.heap.size, 1, none⟩ (.int .i64 r2e)).setCell ⟨w.heap.size + 1, 0, none⟩ (.string (strB r2b))).setCell ⟨w.heap.size + 1, 1, none⟩ (.int .i64 r2e) = W4 at *
          obtain ⟨s0, s1, hr⟩ := HFin.out (⟨r2b, r2e⟩, 0) W4 _ hs3
          simp only at s0 s1
          refine bodyPost_ret (v := .tuple #[.agg #[.string (strB r2b), .int .i64 r2e], .int .u64 0]) (by simp [results, Try.results69, go_sem, s0, s1]) rfl ?_
          rw [HR9.out]
          exact hr
end Go.Proofs.Ytjdjfhioobhcjaa
