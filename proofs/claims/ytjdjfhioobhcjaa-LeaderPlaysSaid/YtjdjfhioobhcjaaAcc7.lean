/-
  Package acceptor: an acceptor among other things of the call's own.
-/
import Derived.Test.YtjdjfhioobhcjaaAcc6
namespace Go.Proofs.Ytjdjfhioobhcjaa
open Go.ChangeShapes Go.WideShapes Go.ChangeAt Go.RowKit Go.Maps
set_option maxRecDepth 100000
set_option linter.unusedVariables false
set_option linter.unusedSimpArgs false

theorem AccO.keep {p : Value} {S D : Nat → Prop} {w w' : World} {N : Nat} {A : AS} (h : AccO p D w N A) (hk : Keep S w w') (hS : ∀ k, S k → ¬ D k) : AccO p D w' N A := by
  obtain ⟨⟨b0, bm, n, h1, h2, h3⟩, h4⟩ := h
  exact ⟨⟨b0, bm, n, h1, h2.keep hk hS, h3⟩, h4⟩
theorem AccO.prepOld {p : Value} {D : Nat → Prop} {w : World} {N : Nat} {A : AS} (h : AccO p D w N A) {x fr : Int} (hx : x < A.promised) : Calls Try.prog 17 #[p, .int .u64 x, .int .u64 fr] w fun e w' => e = .returned (.tuple #[.slice none 0 0, .int .i64 32]) ∧ w = w' := by
  obtain ⟨⟨b0, bm, n, rfl, h2, h3⟩, h4⟩ := h; exact prepare_old h2 hx
theorem AccO.prepOk {p : Value} {D : Nat → Prop} {w : World} {N : Nat} {A : AS} (h : AccO p D w N A) {x fr : Int} (hx : A.promised ≤ x) (hu : U1 x) (hN : N < 1000000) : Calls Try.prog 17 #[p, .int .u64 x, .int .u64 fr] w fun e w' =>
    ∃ ks ao c vs, IsKeys A.l ks ∧ e = .returned (.tuple #[.slice ao (votL A.l ks fr).length c, .int .i64 0]) ∧
    Sep w.heap.size w' [obVts (.slice ao (votL A.l ks fr).length c) 39 vs (votL A.l ks fr)] ∧ AccO p D w' N ⟨x, A.low, A.l⟩ ∧ Keep D w w' := by
  obtain ⟨⟨b0, bm, n, rfl, h2, h3⟩, K, h4, h5⟩ := h
  refine (prepare_ok h2 hx hu (by omega) (by omega) h5).mono ?_
  rintro e w' ⟨ks, ao, c, vs, g1, g2, g3, g4, g5⟩
  exact ⟨ks, ao, c, vs, g1, g2, g3, ⟨⟨b0, bm, n, rfl, g4, h3⟩, K, h4, h5⟩, g5.mono (fun k _ e => by subst e; exact h2.d0)⟩
def obAcc (p : Value) (D : Nat → Prop) (N : Nat) (A : AS) : Ob := ⟨D, fun w => AccO p D w N A⟩
theorem obAcc_good (p : Value) (D : Nat → Prop) (N : Nat) (A : AS) : (obAcc p D N A).Good := ⟨fun h hk hs => h.keep hk hs, fun h k hk => h.lt k hk⟩
section
variable {W w w' : World} {os : List Ob}
variable {p : Value} {D : Nat → Prop} {N : Nat} {A : AS}
theorem SepW.accNew (h : SepW W w os) : Calls Try.prog 16 #[] w fun e w' => ∃ b0 D, e = .returned (.pointer (some ⟨b0, 0, none⟩)) ∧ SepW W w' (obAcc (.pointer (some ⟨b0, 0, none⟩)) D 0 emptyAS :: os) :=
  (anew_o w).mono fun e w' ⟨b0, D, h1, h2, h3, h4⟩ => ⟨b0, D, h1, h.new h4 (obAcc_good ..) h2 h3⟩
theorem SepW.accept (h : SepW W w os) (i : Nat) (hi : os[i]? = some (obAcc p D N A)) {sv : Value} {v : Vt} (hs : SlR w sv (u8s v.val)) (us : U1 v.slot) (ub : U1 v.ballot) (ux : U8 v.val) (lx : v.val.length ≤ 1000000) (hN : N < 1000000) :
    Calls Try.prog 18 #[p, .agg #[.int .u64 v.slot, .int .u64 v.ballot, sv]] w fun e w' => e = .returned (.int .i64 (accE A v)) ∧ ∃ D', SepW W w' (os.set i (obAcc p D' (N + 1) (accR A v))) :=
  (AccO.accept (h.get i hi : AccO p D w N A) hs us ub ux lx hN).mono fun e w' ⟨h1, D', h2, h3⟩ => ⟨h1, D', h.set i hi h3.keep (obAcc_good ..) h2 h3.new⟩
theorem SepW.forget (h : SepW W w os) (i : Nat) (hi : os[i]? = some (obAcc p D N A)) {slot : Int} (us : U1 slot) :
    Calls Try.prog 20 #[p, .int .u64 slot] w fun e w' => e = .returned (.tuple #[]) ∧ SepW W w' (os.set i (obAcc p D N (forgA A slot))) :=
  (AccO.forget (h.get i hi : AccO p D w N A) us).mono fun e w' ⟨h1, h2, h3⟩ => ⟨h1, h.set i hi h3 (obAcc_good ..) h2 (fun k hk => Or.inl hk)⟩
theorem SepW.accPromised (h : SepW W w os) (i : Nat) (hi : os[i]? = some (obAcc p D N A)) : Calls Try.prog 19 #[p] w fun e w' => e = .returned (.int .u64 A.promised) ∧ w = w' := AccO.promised (h.get i hi : AccO p D w N A)
theorem SepW.accLow (h : SepW W w os) (i : Nat) (hi : os[i]? = some (obAcc p D N A)) : Calls Try.prog 21 #[p] w fun e w' => e = .returned (.int .u64 A.low) ∧ w = w' := AccO.low (h.get i hi : AccO p D w N A)
theorem SepW.voted (h : SepW W w os) (i : Nat) (hi : os[i]? = some (obAcc p D N A)) {slot : Int} (us : U1 slot) : Calls Try.prog 27 #[p, .int .u64 slot] w (RetVd w (vOr A slot) (A.l slot).isSome) := AccO.voted (h.get i hi : AccO p D w N A) us
theorem SepW.prepOld (h : SepW W w os) (i : Nat) (hi : os[i]? = some (obAcc p D N A)) {x fr : Int} (hx : x < A.promised) : Calls Try.prog 17 #[p, .int .u64 x, .int .u64 fr] w fun e w' => e = .returned (.tuple #[.slice none 0 0, .int .i64 32]) ∧ w = w' := AccO.prepOld (h.get i hi : AccO p D w N A) hx
theorem SepW.prepOk (h : SepW W w os) (i : Nat) (hi : os[i]? = some (obAcc p D N A)) {x fr : Int} (hx : A.promised ≤ x) (hu : U1 x) (hN : N < 1000000) : Calls Try.prog 17 #[p, .int .u64 x, .int .u64 fr] w fun e w' =>
    ∃ ks ao c vs, IsKeys A.l ks ∧ e = .returned (.tuple #[.slice ao (votL A.l ks fr).length c, .int .i64 0]) ∧ SepW W w' (obVts (.slice ao (votL A.l ks fr).length c) 39 vs (votL A.l ks fr) :: os.set i (obAcc p D N ⟨x, A.low, A.l⟩)) :=
  (AccO.prepOk (h.get i hi : AccO p D w N A) hx hu hN).mono fun e w' ⟨ks, ao, c, vs, h1, h2, h3, h4, h5⟩ => ⟨ks, ao, c, vs, h1, h2, h.setNew i hi h5 (obAcc_good ..) h4 (fun k hk => hk) h3⟩
end
/-- Where only small slots are voted for: the votes by their slots. -/
theorem votL_range {l : Int → Option Vt} {ks : List Int} {fr : Int} {M : Nat} (h : IsKeys l ks) (hM : ∀ x, (l x).isSome = true → 0 ≤ x ∧ x < M) :
    votL l ks fr = ((List.range M).filter (fun (k : Nat) => (l (k : Int)).isSome && decide (fr ≤ (k : Int)))).map (fun (k : Nat) => (l (k : Int)).getD ⟨0, 0, []⟩) := by
  have e : ks = ((List.range M).filter (fun (k : Nat) => (l (k : Int)).isSome)).map (fun (k : Nat) => (k : Int)) := by
    refine rise_unique h.1 ?_ (fun x => ?_)
    · rw [List.pairwise_map]
      exact (List.Pairwise.filter _ (List.pairwise_lt_range (n := M))).imp (fun h => by omega)
    · rw [h.2 x, List.mem_map]
      constructor
      · intro hx
        obtain ⟨h0, h1⟩ := hM x hx
        exact ⟨x.toNat, List.mem_filter.2 ⟨List.mem_range.2 (by omega), by rw [show ((x.toNat : Nat) : Int) = x by omega]; exact hx⟩, by omega⟩
      · rintro ⟨k, hk, rfl⟩
        exact (List.mem_filter.1 hk).2
  rw [e]
  unfold votL
  rw [List.filter_map, List.filter_filter, List.filterMap_map]
  generalize List.range M = r
  induction r with
  | nil => rfl
  | cons k r ih =>
    simp only [List.filter_cons, Function.comp]
    by_cases hl : (l (k : Int)).isSome = true
    · by_cases hf : fr ≤ (k : Int)
      · obtain ⟨v, hv⟩ := Option.isSome_iff_exists.1 hl
        simp [hv, hf]
        simpa [Function.comp] using ih
      · simp [hf]
        simpa [Function.comp] using ih
    · simp [hl]
      simpa [Function.comp] using ih
end Go.Proofs.Ytjdjfhioobhcjaa
