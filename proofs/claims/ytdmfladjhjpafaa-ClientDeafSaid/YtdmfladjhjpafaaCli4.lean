/-
  Package client: may a call be? Is there a node for it?
-/
import Derived.Test.YtdmfladjhjpafaaCli3
namespace Go.Proofs.Ytdmfladjhjpafaa
open Go.ChangeShapes Go.WideShapes Go.ChangeAt Go.RowKit Go.Maps
set_option maxRecDepth 100000

set_option maxHeartbeats 2000000 in
theorem cmay_ok {w : World} {x : Cl} {sv : Value} (hs : SlR w sv (u8s x.body)) (ho : 1 ≤ x.op ∧ x.op ≤ 5) (hh : 0 ≤ x.sh ∧ x.sh < 8) (hg : 0 ≤ x.sg ∧ x.sg < 4) (hb : x.body = [] ∨ x.op = 1) (hp : x.pos = 0 ∨ x.op = 2 ∨ x.op = 5) :
    Calls Try.prog 16 #[.agg #[.int .i64 x.op, .int .i64 x.sh, .int .i64 x.sg, .int .u64 x.pos, sv]] w fun e w' => e = .returned (.bool true) ∧ Below w.heap.size w w' := by
  obtain ⟨op, sh, sg, pos, body⟩ := x
  simp only at *
  obtain ⟨ao, c, rfl, hc1, hc2⟩ := hs.form
  simp only [List.length_map] at *
  obtain ⟨o1, o2⟩ := ho
  obtain ⟨h1, h2⟩ := hh
  obtain ⟨g1, g2⟩ := hg
  have hB := Lib.hid (below_lit w (.cells #[.int .i64 op, .int .i64 sh, .int .i64 sg, .int .u64 pos, .slice ao body.length c] 35))
  have b1 : (((body.length : Int)) == 0) = true ∨ (((body.length : Int) == 0) = false ∧ (op == 1) = true) := by
    rcases hb with hb | hb
    · left; rw [hb]; rfl
    · by_cases h0 : body.length = 0
      · left; rw [h0]; rfl
      · right; exact ⟨by rw [beq_eq_false_iff_ne]; omega, by rw [beq_iff_eq]; exact hb⟩
  have b2 : (pos == 0) = true ∨ ((pos == 0) = false ∧ (op == 2) = true) ∨ ((pos == 0) = false ∧ (op == 2) = false ∧ (op == 5) = true) := by
    by_cases h0 : pos = 0
    · left; rw [beq_iff_eq]; exact h0
    · right
      have hz : (pos == 0) = false := by rw [beq_eq_false_iff_ne]; exact h0
      by_cases h5 : op = 2
      · left; exact ⟨hz, by rw [beq_iff_eq]; exact h5⟩
      · right; exact ⟨hz, by rw [beq_eq_false_iff_ne]; exact h5, by rw [beq_iff_eq]; omega⟩
  clear hs hb hp
  rcases b1 with b1 | ⟨b1, b1'⟩ <;> rcases b2 with b2 | ⟨b2, b2'⟩ | ⟨b2, b2', b2''⟩
  all_goals
    go_enter Try.func16, Try.ntmps16
    go_wp2
    go_ret
    exact ⟨rfl, hB.out⟩
/-- Is there a node of a shard's segment? -/
def thereB (shards : List (List Int)) (x : Cl) : Bool := match shards[x.sh.toNat]? with | some r => decide (x.sg < r.length) | none => false
set_option maxHeartbeats 2000000 in
theorem cthere_any {D : Nat → Prop} {w : World} {b0 bm N : Nat} {A : CS} (h : CliR w D b0 bm N A) {x : Cl} {sv : Value} (h0 : 0 ≤ x.sh) :
    Calls Try.prog 17 #[.pointer (some ⟨b0, 0, none⟩), .agg #[.int .i64 x.op, .int .i64 x.sh, .int .i64 x.sg, .int .u64 x.pos, sv]] w fun e w' => e = .returned (.bool (thereB A.shards x)) ∧ Below w.heap.size w w' := by
  obtain ⟨op, sh, sg, pos, body⟩ := x
  simp only at *
  have hb := below_lit w (.cells #[.int .i64 op, .int .i64 sh, .int .i64 sg, .int .u64 pos, sv] 35)
  have HB := Lib.hid hb
  obtain ⟨rv, ov, ⟨c0, c1, c2, c3, c4⟩, _, _, hrd, _, _⟩ := (h.below hb (Nat.le_refl _)).cell
  obtain ⟨ao, c, rfl, hc1, hc2, hx⟩ := hrd.rows.row
  obtain ⟨n, rfl⟩ := Int.eq_ofNat_of_zero_le h0
  have fin : ∀ b : Bool, b = thereB A.shards ⟨op, (n : Int), sg, pos, body⟩ → Ending.returned (.bool b) = Ending.returned (.bool (thereB A.shards ⟨op, (n : Int), sg, pos, body⟩)) := fun b e => by rw [e]
  have HFin := Lib.hid fin
  clear h hb hrd fin
  by_cases hlt : n < A.shards.length
  · have hli : (n : Int) < (A.shards.length : Int) := by omega
    obtain ⟨a, u, rfl, hcell, hsl⟩ := hx n hlt
    obtain ⟨uo, uc, rfl, hu1, hu2⟩ := hsl.form
    simp only [List.length_map] at hcell hsl hu1
    have hT : thereB A.shards ⟨op, (n : Int), sg, pos, body⟩ = decide (sg < (A.shards[n].length : Int)) := by
      unfold thereB; simp [hlt]
    have HT := Lib.hid hT
    generalize A.shards[n] = r at *
    clear hx hsl hT
    go_enter Try.func17, Try.ntmps17
    go_wp2_with fail
    go_quiet (fail)
    go_wp2_with fail
    go_ret
    exact ⟨HFin.out _ HT.out.symm, by first | exact below_drewN HB.out _ | exact HB.out.drew⟩
  · have hli : decide ((n : Int) < (A.shards.length : Int)) = false := decide_eq_false (by omega)
    have hln : decide (n < A.shards.length) = false := decide_eq_false hlt
    have hT : thereB A.shards ⟨op, (n : Int), sg, pos, body⟩ = false := by
      unfold thereB; simp [hlt]
    have HT := Lib.hid hT
    clear hx hT
    go_enter Try.func17, Try.ntmps17
    go_wp2_with fail
    go_quiet (fail)
    go_wp2_with fail
    go_ret
    exact ⟨HFin.out _ HT.out.symm, by first | exact below_drewN HB.out _ | exact HB.out.drew⟩
end Go.Proofs.Ytdmfladjhjpafaa
