/-
  Package fold: what 'do' comes to, as an object's turn.
-/
import Derived.Test.YtabanackdjlcmaaDo
namespace Go.Proofs.Ytabanackdjlcmaa
open Go.ChangeShapes Go.WideShapes Go.ChangeAt Go.RowKit Go.Maps
set_option maxRecDepth 100000

theorem rowsB_at {rs : Rw} (h : rowsB rs = true) {i : Nat} {r : Int × List Int} (hr : rs[i]? = some r) : rowOkAt rs i = true := by
  unfold rowsB at h
  rw [List.all_eq_true] at h
  exact h i (by have := (List.getElem?_eq_some_iff.1 hr).1; simpa using this)
theorem rowsB_ge {rs : Rw} (h : rowsB rs = true) : ∀ (i : Nat) (r : Int × List Int), rs[i]? = some r → (i : Int) ≤ r.1 ∧ r.1 < 8 := by
  intro i
  induction i with
  | zero =>
    intro r hr
    have := rowsB_at h hr
    unfold rowOkAt at this
    rw [hr] at this
    simp only [Bool.and_eq_true, decide_eq_true_eq] at this
    exact ⟨this.1.1.1.1, this.1.1.1.2⟩
  | succ i ih =>
    intro r hr
    have h1 := rowsB_at h hr
    have hlt := (List.getElem?_eq_some_iff.1 hr).1
    obtain ⟨q, hq⟩ : ∃ q, rs[i]? = some q := ⟨_, List.getElem?_eq_getElem (by omega)⟩
    have h2 := ih q hq
    unfold rowOkAt at h1
    rw [hr] at h1
    simp only [Bool.and_eq_true, decide_eq_true_eq, Nat.add_sub_cancel, List.getD_eq_getElem?_getD, hq, Option.getD_some, Bool.or_eq_true, beq_iff_eq] at h1
    obtain ⟨⟨⟨⟨_, h3⟩, h4⟩, _⟩, _⟩ := h1
    rcases h4 with h4 | h4
    · omega
    · exact ⟨by omega, h3⟩
theorem rowsB_len {rs : Rw} (h : rowsB rs = true) : rs.length ≤ 8 := by
  by_cases h0 : rs.length = 0
  · omega
  · have hr := List.getElem?_eq_getElem (show rs.length - 1 < rs.length by omega)
    have := rowsB_ge h _ _ hr
    omega
set_option maxHeartbeats 1000000 in
theorem FoldR.doing {D : Nat → Prop} {w : World} {b0 bs bt n : Nat} {lv : Value} {F : FS} (h2 : FoldR w D b0 bs bt n lv F) {c : Cm} {v : Value} (hvk : RowsD D w v c.rows) (hcb : checkB c = true) (hu : ∀ r ∈ c.rows, U64 r.2) (hpos : 0 ≤ c.pos) (hFl : F.l.length ≤ 1000000000) (hN : n ≤ 900000) :
    Calls Try.prog 46 #[.pointer (some ⟨b0, 0, none⟩), cmV c v] w fun e w' => e = .returned (.int .i64 (doE F c)) ∧ ∃ D' n' lv', FoldR w' D' b0 bs bt n' lv' (doF F c) ∧ n' ≤ n + 9 ∧ Moved D D' w w' := by
  obtain ⟨op, client, seq, shard, segs, pos, rs⟩ := c
  have hv0 := hvk w (Keep.refl _ _)
  have hv2 : ∃ ao n c, v = .slice ao n c := by obtain ⟨ao, c, e, _⟩ := hv0; exact ⟨ao, _, c, e⟩
  unfold checkB checkA at hcb
  simp only [Bool.and_eq_true, decide_eq_true_eq] at hcb
  obtain ⟨⟨⟨⟨⟨⟨⟨ho0, ho4⟩, hfit⟩, hs0⟩, hs8⟩, hrow⟩, hadd⟩, hseal⟩ := hcb
  have hi : IdOk shard := ⟨hs0, by omega⟩
  have hrl := rowsB_len hrow
  simp only at hrl hpos hu hvk hs8
  suffices hsuf : Calls Try.prog 46 #[.pointer (some ⟨b0, 0, none⟩), cmV ⟨op, client, seq, shard, segs, pos, rs⟩ v] w fun e w' => ∃ x, e = .returned (.int .i64 x) ∧ (x = doE F ⟨op, client, seq, shard, segs, pos, rs⟩ ∧ ∃ D' n' lv', FoldR w' D' b0 bs bt n' lv' (doF F ⟨op, client, seq, shard, segs, pos, rs⟩) ∧ n' ≤ n + 9 ∧ Moved D D' w w') by
    refine hsuf.mono ?_
    rintro e w' ⟨x, rfl, rfl, hh⟩
    exact ⟨rfl, hh⟩
  have h5 : op = 0 ∨ op = 1 ∨ op = 2 ∨ op = 3 ∨ op = 4 := by omega
  obtain ⟨vo, vn, vc, hve⟩ := hv2
  rcases h5 with rfl | rfl | rfl | rfl | rfl
  · refine (do_nop w b0 client seq shard segs pos v ⟨vo, vn, vc, hve⟩).mono ?_
    rintro e w' ⟨rfl, hb⟩
    exact ⟨0, rfl, rfl, D, n, lv, h2.below hb (Nat.le_refl _), by omega, Moved.of (Below.keep0 D hb)⟩
  · simp at hadd
    obtain ⟨sg, rfl⟩ := Int.eq_ofNat_of_zero_le (show 0 ≤ segs by omega)
    refine do_add w b0 client seq shard sg pos v ⟨vo, vn, vc, hve⟩ (fun w2 hb2 => ?_)
    have hR := h2.below hb2 (Nat.le_refl _)
    cases hs : F.sh shard with
    | none =>
      refine (add_new2 hR hi (by omega) (by omega) (by omega) hs hve).mono ?_
      rintro e w' ⟨rfl, hr, hk⟩
      refine ⟨0, rfl, by simp [doE, addE, hs], D, n + 1, lv, ?_, by omega, Moved.of ((Below.keep0 D hb2).trans (hk.mono (fun k _ e => by subst e; exact hR.ds)))⟩
      simpa [doF, addR, hs] using hr
    | some s =>
      refine (add_twice2 hR hi hs hve).mono ?_
      rintro e w' ⟨rfl, hb3⟩
      refine ⟨31, rfl, by simp [doE, addE, hs], D, n, lv, ?_, by omega, Moved.of ((Below.keep0 D hb2).trans (Below.keep0 D hb3))⟩
      simpa [doF, addR, hs] using hR.below hb3 (Nat.le_refl _)
  · refine do_seal w b0 client seq shard segs pos v ⟨vo, vn, vc, hve⟩ (fun w2 hb2 => ?_)
    refine (seal_any (h2.below hb2 (Nat.le_refl _)) (hvk.below hb2) hrl hFl (by omega) hrow hu hi).mono ?_
    rintro e w' ⟨rfl, hneg, hpos'⟩
    refine ⟨_, rfl, by simp [doE], ?_⟩
    rw [show doF F ⟨2, client, seq, shard, segs, pos, rs⟩ = sealR F shard rs by simp [doF]]
    unfold sealR
    by_cases hc : sealE F shard rs = 0
    · obtain ⟨D', lv', hf, hk, hs, hn⟩ := hpos' hc
      rw [if_pos hc]
      exact ⟨D', _, lv', hf, by omega, (Moved.of (Below.keep0 D hb2)).trans ⟨hk, hs, hn⟩⟩
    · rw [if_neg hc]
      have hb := hb2.trans ((hneg hc).mono hb2.size)
      exact ⟨D, n, lv, h2.below hb (Nat.le_refl _), by omega, Moved.of (Below.keep0 D hb)⟩
  · refine do_trim w b0 client seq shard segs pos v ⟨vo, vn, vc, hve⟩ (fun w2 hb2 => ?_)
    have hR := h2.below hb2 (Nat.le_refl _)
    by_cases hpn : pos ≤ F.n
    · refine (trim_ok2 hR hpos hpn hve).mono ?_
      rintro e w' ⟨rfl, hr, hk⟩
      refine ⟨0, rfl, by simp [doE, trimE, hpn], D, n, lv, ?_, by omega, Moved.of ((Below.keep0 D hb2).trans (hk.mono (fun k _ e => by subst e; exact hR.d0)))⟩
      simpa [doF, trimR, hpn] using hr
    · refine (trim_later2 hR (by omega) hve).mono ?_
      rintro e w' ⟨rfl, hb3⟩
      refine ⟨36, rfl, by simp [doE, trimE, hpn], D, n, lv, ?_, by omega, Moved.of ((Below.keep0 D hb2).trans (Below.keep0 D hb3))⟩
      simpa [doF, trimR, hpn] using hR.below hb3 (Nat.le_refl _)
  · refine do_cut w b0 client seq shard segs pos v ⟨vo, vn, vc, hve⟩ (fun w2 hb2 hcell => ?_)
    refine do1_any w2 b0 _ _ _ _ _ _ _ v ⟨vo, vn, vc, hve⟩ hcell (fun w3 hb3 => ?_)
    have hbb := hb2.trans (hb3.mono hb2.size)
    refine (cut_walk (h2.below hbb (Nat.le_refl _)) (hvk.below hbb) hrl hFl (by omega) hrow hu).mono ?_
    rintro e w' ⟨rfl, hneg, hpos'⟩
    refine ⟨_, rfl, by simp [doE], ?_⟩
    rw [show doF F ⟨4, client, seq, shard, segs, pos, rs⟩ = cutR F rs by simp [doF]]
    unfold cutR
    by_cases hc : cutE F rs = 0
    · obtain ⟨D', lv', hf, hk, hs, hn⟩ := hpos' hc
      rw [if_pos hc]
      exact ⟨D', _, lv', hf, by omega, (Moved.of (Below.keep0 D hbb)).trans ⟨hk, hs, hn⟩⟩
    · rw [if_neg hc]
      have hb := hbb.trans ((hneg hc).mono hbb.size)
      exact ⟨D, n, lv, h2.below hb (Nat.le_refl _), by omega, Moved.of (Below.keep0 D hb)⟩
end Go.Proofs.Ytabanackdjlcmaa
